/- Part of a program logic over data: rules of the walk, each proved. -/
import Derived.Test.YtbmedfjmccnclaaGreatChecked
import Derived.Test.YtbmedfjmccnclaaGreatLogicC
import Derived.KernelRfl
set_option linter.unusedVariables false
set_option linter.unusedSimpArgs false
set_option linter.unusedSectionVars false
set_option maxRecDepth 100000
namespace Go.Proofs.YtbmedfjmccnclaaGreat.W
open Go Go.Proofs Go.Proofs.YtbmedfjmccnclaaGreat.AWP
def ti1:TI:=⟨.other,1,8,[.nilFunc]⟩
def ti2:TI:=⟨.int .i64,1,8,[.int .i64 0]⟩
def ti3:TI:=⟨.int .i64,1,8,[.int .i64 0]⟩
def ti4:TI:=⟨.bool,1,1,[.bool false]⟩
def ti5:TI:=⟨.int .u8,1,1,[.int .u8 0]⟩
def ti9:TI:=⟨.str,1,16,[.string .empty]⟩
def ti20:TI:=⟨.other,1,16,[.nilIface]⟩
def ti21:TI:=⟨.int .i32,1,4,[.int .i32 0]⟩
def ti22:TI:=⟨.slice 9,1,24,[.slice none 0 0]⟩
def ti23:TI:=⟨.slice 43,1,24,[.slice none 0 0]⟩
def ti25:TI:=⟨.struct [(0,22),(1,23)],2,48,[.slice none 0 0,.slice none 0 0]⟩
def ti26:TI:=⟨.slice 28,1,24,[.slice none 0 0]⟩
def ti28:TI:=⟨.struct [(0,5),(1,3),(2,26)],3,40,[.int .u8 0,.int .i64 0,.slice none 0 0]⟩
def ti29:TI:=⟨.other,1,8,[.nilFunc]⟩
def ti30:TI:=⟨.other,1,8,[.nilFunc]⟩
def ti31:TI:=⟨.other,1,8,[.nilFunc]⟩
def ti32:TI:=⟨.ptr,1,8,[.pointer none]⟩
def ti33:TI:=⟨.int .i64,1,8,[.int .i64 0]⟩
def ti36:TI:=⟨.slice 3,1,24,[.slice none 0 0]⟩
def ti43:TI:=⟨.struct [(0,9),(1,28)],4,56,[.string .empty,.int .u8 0,.int .i64 0,.slice none 0 0]⟩
def ti49:TI:=⟨.slice 52,1,24,[.slice none 0 0]⟩
def ti52:TI:=⟨.struct [(0,5),(1,3),(2,3),(3,3)],4,32,[.int .u8 0,.int .i64 0,.int .i64 0,.int .i64 0]⟩
def ti56:TI:=⟨.slice 25,1,24,[.slice none 0 0]⟩
def ti72:TI:=⟨.struct [],0,0,[]⟩
def ti73:TI:=⟨.struct [],0,0,[]⟩
def ti74:TI:=⟨.int .u32,1,4,[.int .u32 0]⟩
def ti76:TI:=⟨.struct [(0,73),(0,74)],1,4,[.int .u32 0]⟩
def ti78:TI:=⟨.struct [(0,21),(1,74)],2,8,[.int .i32 0,.int .u32 0]⟩
def ti80:TI:=⟨.struct [(0,72),(0,78)],2,8,[.int .i32 0,.int .u32 0]⟩
def ti82:TI:=⟨.struct [(0,72),(0,76),(1,80)],3,12,[.int .u32 0,.int .i32 0,.int .u32 0]⟩
def ti83:TI:=⟨.slice 4,1,24,[.slice none 0 0]⟩
def ti84:TI:=⟨.slice 99,1,24,[.slice none 0 0]⟩
def ti86:TI:=⟨.struct [(0,83),(1,83),(2,84),(3,84)],4,96,[.slice none 0 0,.slice none 0 0,.slice none 0 0,.slice none 0 0]⟩
def ti88:TI:=⟨.struct [(0,25),(2,82),(5,86)],9,160,[.slice none 0 0,.slice none 0 0,.int .u32 0,.int .i32 0,.int .u32 0,.slice none 0 0,.slice none 0 0,.slice none 0 0,.slice none 0 0]⟩
def ti91:TI:=⟨.slice 83,1,24,[.slice none 0 0]⟩
def ti93:TI:=⟨.struct [(0,83),(1,83),(2,91),(3,91),(4,3)],5,104,[.slice none 0 0,.slice none 0 0,.slice none 0 0,.slice none 0 0,.int .i64 0]⟩
def ti96:TI:=⟨.ptr,1,8,[.pointer none]⟩
def ti99:TI:=⟨.slice 4,1,24,[.slice none 0 0]⟩
def ti106:TI:=⟨.ptr,1,8,[.pointer none]⟩
def ti108:TI:=⟨.struct [(0,32),(1,3),(2,3),(3,49)],4,48,[.pointer none,.int .i64 0,.int .i64 0,.slice none 0 0]⟩
def ti113:TI:=⟨.other,1,8,[.nilFunc]⟩
def ti115:TI:=⟨.slice 120,1,24,[.slice none 0 0]⟩
def ti120:TI:=⟨.struct [(0,3),(1,9),(2,9)],3,40,[.int .i64 0,.string .empty,.string .empty]⟩
def ti122:TI:=⟨.ptr,1,8,[.pointer none]⟩
def ti124:TI:=⟨.struct [(0,9),(1,3),(2,22),(3,22)],4,72,[.string .empty,.int .i64 0,.slice none 0 0,.slice none 0 0]⟩
def ti137:TI:=⟨.other,1,8,[.nilFunc]⟩
def ti146:TI:=⟨.struct [(0,3),(1,33)],2,16,[.int .i64 0,.int .i64 0]⟩
def ti151:TI:=⟨.ptr,1,8,[.pointer none]⟩
def ti154:TI:=⟨.other,1,8,[.nilFunc]⟩
def ti161:TI:=⟨.slice 22,1,24,[.slice none 0 0]⟩
def ti165:TI:=⟨.ptr,1,8,[.pointer none]⟩
def ti170:TI:=⟨.int .u64,1,8,[.int .u64 0]⟩
def ti181:TI:=⟨.int .i64,1,8,[.int .i64 0]⟩
def ti189:TI:=⟨.int .u64,1,8,[.int .u64 0]⟩
def ti193:TI:=⟨.ptr,1,8,[.pointer none]⟩
def ti195:TI:=⟨.ptr,1,8,[.pointer none]⟩
def ti197:TI:=⟨.other,1,8,[.pointer none]⟩
def ti200:TI:=⟨.int .u64,1,8,[.int .u64 0]⟩
def ti204:TI:=⟨.ptr,1,8,[.pointer none]⟩
def tab:List (Nat × TI):=[(1,ti1),(2,ti2),(3,ti3),(4,ti4),(5,ti5),(9,ti9),(20,ti20),(21,ti21),(22,ti22),(23,ti23),(25,ti25),(26,ti26),(28,ti28),(29,ti29),(30,ti30),(31,ti31),(32,ti32),(33,ti33),(36,ti36),(43,ti43),(49,ti49),(52,ti52),(56,ti56),(72,ti72),(73,ti73),(74,ti74),(76,ti76),(78,ti78),(80,ti80),(82,ti82),(83,ti83),(84,ti84),(86,ti86),(88,ti88),(91,ti91),(93,ti93),(96,ti96),(99,ti99),(106,ti106),(108,ti108),(113,ti113),(115,ti115),(120,ti120),(122,ti122),(124,ti124),(137,ti137),(146,ti146),(151,ti151),(154,ti154),(161,ti161),(165,ti165),(170,ti170),(181,ti181),(189,ti189),(193,ti193),(195,ti195),(197,ti197),(200,ti200),(204,ti204)]
def T:Tab:=fun t=>(tab.find? fun p=>p.1 == t).map (·.2)
theorem T1:T 1=some ti1:=rfl
theorem T2:T 2=some ti2:=rfl
theorem T3:T 3=some ti3:=rfl
theorem T4:T 4=some ti4:=rfl
theorem T5:T 5=some ti5:=rfl
theorem T9:T 9=some ti9:=rfl
theorem T20:T 20=some ti20:=rfl
theorem T21:T 21=some ti21:=rfl
theorem T22:T 22=some ti22:=rfl
theorem T23:T 23=some ti23:=rfl
theorem T25:T 25=some ti25:=rfl
theorem T26:T 26=some ti26:=rfl
theorem T28:T 28=some ti28:=rfl
theorem T29:T 29=some ti29:=rfl
theorem T30:T 30=some ti30:=rfl
theorem T31:T 31=some ti31:=rfl
theorem T32:T 32=some ti32:=rfl
theorem T33:T 33=some ti33:=rfl
theorem T36:T 36=some ti36:=rfl
theorem T43:T 43=some ti43:=rfl
theorem T49:T 49=some ti49:=rfl
theorem T52:T 52=some ti52:=rfl
theorem T56:T 56=some ti56:=rfl
theorem T72:T 72=some ti72:=rfl
theorem T73:T 73=some ti73:=rfl
theorem T74:T 74=some ti74:=rfl
theorem T76:T 76=some ti76:=rfl
theorem T78:T 78=some ti78:=rfl
theorem T80:T 80=some ti80:=rfl
theorem T82:T 82=some ti82:=rfl
theorem T83:T 83=some ti83:=rfl
theorem T84:T 84=some ti84:=rfl
theorem T86:T 86=some ti86:=rfl
theorem T88:T 88=some ti88:=rfl
theorem T91:T 91=some ti91:=rfl
theorem T93:T 93=some ti93:=rfl
theorem T96:T 96=some ti96:=rfl
theorem T99:T 99=some ti99:=rfl
theorem T106:T 106=some ti106:=rfl
theorem T108:T 108=some ti108:=rfl
theorem T113:T 113=some ti113:=rfl
theorem T115:T 115=some ti115:=rfl
theorem T120:T 120=some ti120:=rfl
theorem T122:T 122=some ti122:=rfl
theorem T124:T 124=some ti124:=rfl
theorem T137:T 137=some ti137:=rfl
theorem T146:T 146=some ti146:=rfl
theorem T151:T 151=some ti151:=rfl
theorem T154:T 154=some ti154:=rfl
theorem T161:T 161=some ti161:=rfl
theorem T165:T 165=some ti165:=rfl
theorem T170:T 170=some ti170:=rfl
theorem T181:T 181=some ti181:=rfl
theorem T189:T 189=some ti189:=rfl
theorem T193:T 193=some ti193:=rfl
theorem T195:T 195=some ti195:=rfl
theorem T197:T 197=some ti197:=rfl
theorem T200:T 200=some ti200:=rfl
theorem T204:T 204=some ti204:=rfl
theorem tab_ok:tabB Tryz.prog tab=true:=by kernel_rfl
theorem hT:TabOk Tryz.prog T:=by
 intro t i h
 unfold T at h
 simp only [Option.map_eq_some_iff] at h
 obtain ⟨p,hp,rfl⟩:=h
 have h1:=List.find?_some hp
 have h2:=List.mem_of_find?_eq_some hp
 simp only [beq_iff_eq] at h1
 obtain ⟨t',i'⟩:=p
 subst h1
 exact tabB_ok tab_ok t' i' h2
theorem hm:Tryz.prog.follows .mixedOrders=true:=by kernel_rfl
def f3_r0:List LOp:=[
 ⟨some 3,.box 25 (.tmp 0),none⟩,
 ⟨some 4,.box 28 (.tmp 1),none⟩,
 ⟨some 6,.assign (.const (.bool false)),none⟩]
def f3_r1:List LOp:=[
 ⟨some 12,.load 25 (.tmp 3),none⟩,
 ⟨some 13,.call ⟨.value (.func 11),#[.tmp 12],#[25]⟩,none⟩,
 ⟨some 14,.move (.tmp 13),none⟩,
 ⟨some 15,.load 28 (.tmp 4),some (2,false)⟩,
 ⟨some 16,.call ⟨.value (.func 12),#[.tmp 15],#[28]⟩,some (2,false)⟩,
 ⟨some 17,.pick (.tmp 14) (.const (.bool true)) (.tmp 16),none⟩,
 ⟨some 18,.move (.tmp 17),none⟩,
 ⟨some 19,.load 25 (.tmp 3),some (6,false)⟩,
 ⟨some 20,.call ⟨.value (.func 13),#[.tmp 19],#[25]⟩,some (6,false)⟩,
 ⟨some 21,.unOp .not 4 (.tmp 20),some (6,false)⟩,
 ⟨some 22,.pick (.tmp 18) (.const (.bool true)) (.tmp 21),none⟩]
def f3_r2:List LOp:=[
 ⟨some 23,.call ⟨.value (.func 14),#[],#[]⟩,none⟩,
 ⟨some 6,.assign (.tmp 23),none⟩]
def f3_r3:List LOp:=[
 ⟨some 25,.load 25 (.tmp 3),none⟩,
 ⟨some 26,.call ⟨.value (.func 15),#[.tmp 25],#[25]⟩,none⟩,
 ⟨some 24,.move (.tmp 26),none⟩,
 ⟨some 27,.extract (.tmp 24) 0,none⟩,
 ⟨some 28,.extract (.tmp 24) 1,none⟩,
 ⟨some 7,.assign (.tmp 27),none⟩,
 ⟨some 8,.assign (.tmp 28),none⟩]
def f3_r4:List LOp:=[
 ⟨some 29,.load 25 (.tmp 3),none⟩,
 ⟨some 30,.load 28 (.tmp 4),none⟩,
 ⟨some 31,.call ⟨.value (.func 16),#[.tmp 29,.tmp 30],#[25,28]⟩,none⟩,
 ⟨some 9,.assign (.tmp 31),none⟩]
def f3_r5:List LOp:=[
 ⟨some 10,.assign (.const (.bool false)),none⟩]
def f3_r6:List LOp:=[
 ⟨some 11,.assign (.const (.int .i64 0)),none⟩]
def f3_r7:List LOp:=[
 ⟨some 32,.move (.tmp 11),none⟩,
 ⟨some 33,.move (.tmp 9),none⟩,
 ⟨some 34,.call ⟨.builtin .len,#[.tmp 33],#[36]⟩,none⟩,
 ⟨some 35,.binOp .lss 3 (.tmp 32) (.tmp 34) 3,none⟩]
def f3_r8:List LOp:=[
 ⟨some 38,.move (.tmp 10),none⟩,
 ⟨some 39,.move (.tmp 38),none⟩,
 ⟨some 40,.move (.tmp 9),some (1,false)⟩,
 ⟨some 41,.move (.tmp 11),some (1,false)⟩,
 ⟨some 42,.indexAddr 36 (.tmp 40) (.tmp 41),some (1,false)⟩,
 ⟨some 43,.load 3 (.tmp 42),some (1,false)⟩,
 ⟨some 44,.move (.tmp 2),some (1,false)⟩,
 ⟨some 45,.binOp .eql 3 (.tmp 43) (.tmp 44) 3,some (1,false)⟩,
 ⟨some 46,.pick (.tmp 39) (.const (.bool true)) (.tmp 45),none⟩,
 ⟨some 10,.assign (.tmp 46),none⟩]
def f3_r9:List LOp:=[
 ⟨some 36,.move (.tmp 11),none⟩,
 ⟨some 37,.binOp .add 3 (.tmp 36) (.const (.int .i64 1)) 3,none⟩,
 ⟨some 11,.assign (.tmp 37),none⟩]
def f3_l10:LC:=(.seq (.seq (.reg f3_r7 [] none) (.cond (.tmp 35) .skip (.exit 0))) (.seq (.block 1 (.reg f3_r8 [] none)) (.reg f3_r9 [] none)))
def f3_i10 (t2 t3 t4 t7 t8 t9 t10 t11:D):List D:=[.any,.any,t2,t3,t4,.any,.any,t7,t8,t9,t10,t11,.any,.any,.any,.any,.any,.any,.any,.any,.any,.any,.any,.any,.any,.any,.any,.any,.any,.any,.any,.any,.any,.any,.any,.any,.any,.any,.any,.any,.any,.any,.any,.any,.any,.any,.any,.any,.any,.any,.any,.any,.any,.any,.any,.any,.any,.any,.any,.any,.any,.any,.any,.any,.any,.any,.any,.any,.any,.any,.any,.any,.any,.any,.any,.any]
def f3_r11:List LOp:=[
 ⟨some 47,.move (.tmp 8),none⟩,
 ⟨some 48,.binOp .eql 33 (.tmp 47) (.const (.int .i64 0)) 33,none⟩,
 ⟨some 49,.move (.tmp 48),none⟩,
 ⟨some 50,.move (.tmp 7),some (2,true)⟩,
 ⟨some 51,.load 28 (.tmp 4),some (2,true)⟩,
 ⟨some 52,.call ⟨.value (.func 18),#[.tmp 50,.tmp 51],#[32,28]⟩,some (2,true)⟩,
 ⟨some 53,.move (.tmp 9),some (2,true)⟩,
 ⟨some 54,.call ⟨.value (.func 17),#[.tmp 52,.tmp 53],#[36,36]⟩,some (2,true)⟩,
 ⟨some 55,.pick (.tmp 49) (.tmp 54) (.const (.bool false)),none⟩,
 ⟨some 56,.move (.tmp 55),none⟩,
 ⟨some 57,.move (.tmp 7),some (9,true)⟩,
 ⟨some 58,.load 28 (.tmp 4),some (9,true)⟩,
 ⟨some 59,.call ⟨.value (.func 19),#[.tmp 57,.tmp 58],#[32,28]⟩,some (9,true)⟩,
 ⟨some 60,.load 25 (.tmp 3),some (9,true)⟩,
 ⟨some 61,.load 28 (.tmp 4),some (9,true)⟩,
 ⟨some 62,.call ⟨.value (.func 20),#[.tmp 60,.tmp 61],#[25,28]⟩,some (9,true)⟩,
 ⟨some 63,.call ⟨.value (.func 17),#[.tmp 59,.tmp 62],#[36,36]⟩,some (9,true)⟩,
 ⟨some 64,.pick (.tmp 56) (.tmp 63) (.const (.bool false)),none⟩,
 ⟨some 65,.move (.tmp 64),none⟩,
 ⟨some 66,.move (.tmp 7),some (18,true)⟩,
 ⟨some 67,.load 28 (.tmp 4),some (18,true)⟩,
 ⟨some 68,.move (.tmp 2),some (18,true)⟩,
 ⟨some 69,.call ⟨.value (.func 21),#[.tmp 66,.tmp 67,.tmp 68],#[32,28,3]⟩,some (18,true)⟩,
 ⟨some 70,.move (.tmp 10),some (18,true)⟩,
 ⟨some 71,.binOp .eql 4 (.tmp 69) (.tmp 70) 4,some (18,true)⟩,
 ⟨some 72,.pick (.tmp 65) (.tmp 71) (.const (.bool false)),none⟩,
 ⟨some 73,.move (.tmp 72),none⟩,
 ⟨some 74,.call ⟨.value (.func 14),#[],#[]⟩,some (26,true)⟩,
 ⟨some 75,.pick (.tmp 73) (.tmp 74) (.const (.bool false)),none⟩,
 ⟨some 6,.assign (.tmp 75),none⟩]
def f3_c:LC:=(.seq (.reg f3_r0 [] none) (.seq (.seq (.reg f3_r1 [] none) (.cond (.tmp 22) (.seq (.reg f3_r2 [] none) .ret) .skip)) (.seq (.reg f3_r3 [] none) (.seq (.reg f3_r4 [] none) (.seq (.reg f3_r5 [] none) (.seq (.seq (.reg f3_r6 [] none) (.block 0 (.loop f3_l10))) (.seq (.reg f3_r11 [] (some 29)) .ret)))))))
theorem f3_lc:Tryz.f3.body.map lc=some f3_c.st:=by kernel_rfl
theorem f3_res:Tryz.f3.results.toList=[.tmp 6]:=by kernel_rfl
theorem f3_nt:Tryz.f3.ntmps=76:=by kernel_rfl
theorem f3_nm : (Tryz.f3.name == "runtime.NumGoroutine") = false := by kernel_rfl
def f11_r0:List LOp:=[
 ⟨some 1,.box 25 (.tmp 0),none⟩,
 ⟨some 2,.assign (.const (.bool false)),none⟩]
def f11_r1:List LOp:=[
 ⟨some 5,.fieldAddr 25 (.tmp 1) 0,none⟩,
 ⟨some 6,.load 22 (.tmp 5),none⟩,
 ⟨some 7,.call ⟨.builtin .len,#[.tmp 6],#[22]⟩,none⟩,
 ⟨some 8,.binOp .gtr 3 (.tmp 7) (.const (.int .i64 12)) 3,none⟩,
 ⟨some 9,.move (.tmp 8),none⟩,
 ⟨some 10,.fieldAddr 25 (.tmp 1) 1,some (4,false)⟩,
 ⟨some 11,.load 23 (.tmp 10),some (4,false)⟩,
 ⟨some 12,.call ⟨.builtin .len,#[.tmp 11],#[23]⟩,some (4,false)⟩,
 ⟨some 13,.binOp .gtr 3 (.tmp 12) (.const (.int .i64 12)) 3,some (4,false)⟩,
 ⟨some 14,.pick (.tmp 9) (.const (.bool true)) (.tmp 13),none⟩]
def f11_r2:List LOp:=[
 ⟨some 2,.assign (.const (.bool true)),none⟩]
def f11_r3:List LOp:=[
 ⟨some 15,.fieldAddr 25 (.tmp 1) 0,none⟩,
 ⟨some 16,.load 22 (.tmp 15),none⟩,
 ⟨some 17,.call ⟨.builtin .len,#[.tmp 16],#[22]⟩,none⟩,
 ⟨some 18,.move (.const (.int .i64 0)),none⟩]
def f11_r4:List LOp:=[
 ⟨some 19,.binOp .lss 3 (.tmp 18) (.tmp 17) 3,none⟩]
def f11_r5:List LOp:=[
 ⟨some 20,.move (.tmp 18),none⟩,
 ⟨some 3,.assign (.tmp 20),none⟩]
def f11_r6:List LOp:=[
 ⟨some 21,.fieldAddr 25 (.tmp 1) 0,none⟩,
 ⟨some 22,.load 22 (.tmp 21),none⟩,
 ⟨some 23,.move (.tmp 3),none⟩,
 ⟨some 24,.indexAddr 22 (.tmp 22) (.tmp 23),none⟩,
 ⟨some 25,.load 9 (.tmp 24),none⟩,
 ⟨some 26,.call ⟨.builtin .len,#[.tmp 25],#[9]⟩,none⟩,
 ⟨some 27,.binOp .gtr 3 (.tmp 26) (.const (.int .i64 100)) 3,none⟩]
def f11_r7:List LOp:=[
 ⟨some 2,.assign (.const (.bool true)),none⟩]
def f11_r8:List LOp:=[
 ⟨some 28,.binOp .add 3 (.tmp 18) (.const (.int .i64 1)) 3,none⟩,
 ⟨some 18,.move (.tmp 28),none⟩]
def f11_l9:LC:=(.seq (.reg f11_r4 [] none) (.seq (.cond (.tmp 19) .skip (.exit 0)) (.seq (.block 1 (.seq (.reg f11_r5 [] none) (.seq (.reg f11_r6 [] none) (.cond (.tmp 27) (.seq (.reg f11_r7 [] none) .ret) .skip)))) (.reg f11_r8 [] none))))
def f11_i9 (t1 t17 t18:D):List D:=[.any,t1,.any,.any,.any,.any,.any,.any,.any,.any,.any,.any,.any,.any,.any,.any,.any,t17,t18,.any,.any,.any,.any,.any,.any,.any,.any,.any,.any,.any,.any,.any,.any,.any,.any,.any,.any,.any,.any,.any,.any,.any,.any,.any,.any,.any,.any,.any,.any,.any,.any,.any,.any,.any]
def f11_r10:List LOp:=[
 ⟨some 29,.fieldAddr 25 (.tmp 1) 1,none⟩,
 ⟨some 30,.load 23 (.tmp 29),none⟩,
 ⟨some 31,.call ⟨.builtin .len,#[.tmp 30],#[23]⟩,none⟩,
 ⟨some 32,.move (.const (.int .i64 0)),none⟩]
def f11_r11:List LOp:=[
 ⟨some 33,.binOp .lss 3 (.tmp 32) (.tmp 31) 3,none⟩]
def f11_r12:List LOp:=[
 ⟨some 34,.move (.tmp 32),none⟩,
 ⟨some 4,.assign (.tmp 34),none⟩]
def f11_r13:List LOp:=[
 ⟨some 35,.fieldAddr 25 (.tmp 1) 1,none⟩,
 ⟨some 36,.load 23 (.tmp 35),none⟩,
 ⟨some 37,.move (.tmp 4),none⟩,
 ⟨some 38,.indexAddr 23 (.tmp 36) (.tmp 37),none⟩,
 ⟨some 39,.fieldAddr 43 (.tmp 38) 0,none⟩,
 ⟨some 40,.load 9 (.tmp 39),none⟩,
 ⟨some 41,.call ⟨.builtin .len,#[.tmp 40],#[9]⟩,none⟩,
 ⟨some 42,.binOp .gtr 3 (.tmp 41) (.const (.int .i64 100)) 3,none⟩,
 ⟨some 43,.move (.tmp 42),none⟩,
 ⟨some 44,.fieldAddr 25 (.tmp 1) 1,some (8,false)⟩,
 ⟨some 45,.load 23 (.tmp 44),some (8,false)⟩,
 ⟨some 46,.move (.tmp 4),some (8,false)⟩,
 ⟨some 47,.indexAddr 23 (.tmp 45) (.tmp 46),some (8,false)⟩,
 ⟨some 48,.fieldAddr 43 (.tmp 47) 1,some (8,false)⟩,
 ⟨some 49,.load 28 (.tmp 48),some (8,false)⟩,
 ⟨some 50,.call ⟨.value (.func 37),#[.tmp 49,.const (.int .i64 60)],#[28,3]⟩,some (8,false)⟩,
 ⟨some 51,.binOp .gtr 3 (.tmp 50) (.const (.int .i64 60)) 3,some (8,false)⟩,
 ⟨some 52,.pick (.tmp 43) (.const (.bool true)) (.tmp 51),none⟩]
def f11_r14:List LOp:=[
 ⟨some 2,.assign (.const (.bool true)),none⟩]
def f11_r15:List LOp:=[
 ⟨some 53,.binOp .add 3 (.tmp 32) (.const (.int .i64 1)) 3,none⟩,
 ⟨some 32,.move (.tmp 53),none⟩]
def f11_l16:LC:=(.seq (.reg f11_r11 [] none) (.seq (.cond (.tmp 33) .skip (.exit 2)) (.seq (.block 3 (.seq (.reg f11_r12 [] none) (.seq (.reg f11_r13 [] none) (.cond (.tmp 52) (.seq (.reg f11_r14 [] none) .ret) .skip)))) (.reg f11_r15 [] none))))
def f11_i16 (t1 t31 t32:D):List D:=[.any,t1,.any,.any,.any,.any,.any,.any,.any,.any,.any,.any,.any,.any,.any,.any,.any,.any,.any,.any,.any,.any,.any,.any,.any,.any,.any,.any,.any,.any,.any,t31,t32,.any,.any,.any,.any,.any,.any,.any,.any,.any,.any,.any,.any,.any,.any,.any,.any,.any,.any,.any,.any,.any]
def f11_r17:List LOp:=[
 ⟨some 2,.assign (.const (.bool false)),none⟩]
def f11_c:LC:=(.seq (.reg f11_r0 [] none) (.seq (.seq (.reg f11_r1 [] none) (.cond (.tmp 14) (.seq (.reg f11_r2 [] none) .ret) .skip)) (.seq (.seq (.reg f11_r3 [] none) (.block 0 (.loop f11_l9))) (.seq (.seq (.reg f11_r10 [] none) (.block 2 (.loop f11_l16))) (.seq (.reg f11_r17 [] none) .ret)))))
theorem f11_lc:Tryz.f11.body.map lc=some f11_c.st:=by kernel_rfl
theorem f11_res:Tryz.f11.results.toList=[.tmp 2]:=by kernel_rfl
theorem f11_nt:Tryz.f11.ntmps=54:=by kernel_rfl
theorem f11_nm : (Tryz.f11.name == "runtime.NumGoroutine") = false := by kernel_rfl
def f12_r0:List LOp:=[
 ⟨some 1,.box 28 (.tmp 0),none⟩,
 ⟨some 2,.assign (.const (.bool false)),none⟩]
def f12_r1:List LOp:=[
 ⟨some 3,.load 28 (.tmp 1),none⟩,
 ⟨some 4,.call ⟨.value (.func 37),#[.tmp 3,.const (.int .i64 60)],#[28,3]⟩,none⟩,
 ⟨some 5,.binOp .gtr 3 (.tmp 4) (.const (.int .i64 60)) 3,none⟩,
 ⟨some 2,.assign (.tmp 5),none⟩]
def f12_c:LC:=(.seq (.reg f12_r0 [] none) (.seq (.reg f12_r1 [] none) .ret))
theorem f12_lc:Tryz.f12.body.map lc=some f12_c.st:=by kernel_rfl
theorem f12_res:Tryz.f12.results.toList=[.tmp 2]:=by kernel_rfl
theorem f12_nt:Tryz.f12.ntmps=6:=by kernel_rfl
theorem f12_nm : (Tryz.f12.name == "runtime.NumGoroutine") = false := by kernel_rfl
def f13_r0:List LOp:=[
 ⟨some 1,.box 25 (.tmp 0),none⟩,
 ⟨some 2,.assign (.const (.bool false)),none⟩]
def f13_r1:List LOp:=[
 ⟨some 5,.fieldAddr 25 (.tmp 1) 0,none⟩,
 ⟨some 6,.load 22 (.tmp 5),none⟩,
 ⟨some 7,.call ⟨.builtin .len,#[.tmp 6],#[22]⟩,none⟩,
 ⟨some 8,.binOp .lss 3 (.tmp 7) (.const (.int .i64 1)) 3,none⟩,
 ⟨some 9,.move (.tmp 8),none⟩,
 ⟨some 10,.fieldAddr 25 (.tmp 1) 0,some (4,false)⟩,
 ⟨some 11,.load 22 (.tmp 10),some (4,false)⟩,
 ⟨some 12,.call ⟨.builtin .len,#[.tmp 11],#[22]⟩,some (4,false)⟩,
 ⟨some 13,.binOp .gtr 3 (.tmp 12) (.const (.int .i64 100)) 3,some (4,false)⟩,
 ⟨some 14,.pick (.tmp 9) (.const (.bool true)) (.tmp 13),none⟩,
 ⟨some 15,.move (.tmp 14),none⟩,
 ⟨some 16,.fieldAddr 25 (.tmp 1) 1,some (10,false)⟩,
 ⟨some 17,.load 23 (.tmp 16),some (10,false)⟩,
 ⟨some 18,.call ⟨.builtin .len,#[.tmp 17],#[23]⟩,some (10,false)⟩,
 ⟨some 19,.binOp .lss 3 (.tmp 18) (.const (.int .i64 1)) 3,some (10,false)⟩,
 ⟨some 20,.pick (.tmp 15) (.const (.bool true)) (.tmp 19),none⟩,
 ⟨some 21,.move (.tmp 20),none⟩,
 ⟨some 22,.fieldAddr 25 (.tmp 1) 1,some (16,false)⟩,
 ⟨some 23,.load 23 (.tmp 22),some (16,false)⟩,
 ⟨some 24,.call ⟨.builtin .len,#[.tmp 23],#[23]⟩,some (16,false)⟩,
 ⟨some 25,.binOp .gtr 3 (.tmp 24) (.const (.int .i64 50)) 3,some (16,false)⟩,
 ⟨some 26,.pick (.tmp 21) (.const (.bool true)) (.tmp 25),none⟩,
 ⟨some 27,.move (.tmp 26),none⟩,
 ⟨some 28,.load 25 (.tmp 1),some (22,false)⟩,
 ⟨some 29,.call ⟨.value (.func 39),#[.tmp 28],#[25]⟩,some (22,false)⟩,
 ⟨some 30,.call ⟨.value (.func 38),#[.tmp 29],#[22]⟩,some (22,false)⟩,
 ⟨some 31,.unOp .not 4 (.tmp 30),some (22,false)⟩,
 ⟨some 32,.pick (.tmp 27) (.const (.bool true)) (.tmp 31),none⟩]
def f13_r2:List LOp:=[
 ⟨some 2,.assign (.const (.bool false)),none⟩]
def f13_r3:List LOp:=[
 ⟨some 3,.assign (.const (.int .i64 0)),none⟩]
def f13_r4:List LOp:=[
 ⟨some 33,.fieldAddr 25 (.tmp 1) 1,none⟩,
 ⟨some 34,.load 23 (.tmp 33),none⟩,
 ⟨some 35,.call ⟨.builtin .len,#[.tmp 34],#[23]⟩,none⟩,
 ⟨some 36,.move (.const (.int .i64 0)),none⟩]
def f13_r5:List LOp:=[
 ⟨some 37,.binOp .lss 3 (.tmp 36) (.tmp 35) 3,none⟩]
def f13_r6:List LOp:=[
 ⟨some 38,.move (.tmp 36),none⟩,
 ⟨some 4,.assign (.tmp 38),none⟩]
def f13_r7:List LOp:=[
 ⟨some 39,.fieldAddr 25 (.tmp 1) 1,none⟩,
 ⟨some 40,.load 23 (.tmp 39),none⟩,
 ⟨some 41,.move (.tmp 4),none⟩,
 ⟨some 42,.indexAddr 23 (.tmp 40) (.tmp 41),none⟩,
 ⟨some 43,.fieldAddr 43 (.tmp 42) 1,none⟩,
 ⟨some 44,.load 28 (.tmp 43),none⟩,
 ⟨some 45,.fieldAddr 25 (.tmp 1) 0,none⟩,
 ⟨some 46,.load 22 (.tmp 45),none⟩,
 ⟨some 47,.call ⟨.builtin .len,#[.tmp 46],#[22]⟩,none⟩,
 ⟨some 48,.fieldAddr 25 (.tmp 1) 1,none⟩,
 ⟨some 49,.load 23 (.tmp 48),none⟩,
 ⟨some 50,.call ⟨.builtin .len,#[.tmp 49],#[23]⟩,none⟩,
 ⟨some 51,.call ⟨.value (.func 40),#[.tmp 44,.tmp 47,.tmp 50],#[28,3,3]⟩,none⟩,
 ⟨some 52,.unOp .not 4 (.tmp 51),none⟩]
def f13_r8:List LOp:=[
 ⟨some 2,.assign (.const (.bool false)),none⟩]
def f13_r9:List LOp:=[
 ⟨some 53,.move (.tmp 3),none⟩,
 ⟨some 54,.fieldAddr 25 (.tmp 1) 1,none⟩,
 ⟨some 55,.load 23 (.tmp 54),none⟩,
 ⟨some 56,.move (.tmp 4),none⟩,
 ⟨some 57,.indexAddr 23 (.tmp 55) (.tmp 56),none⟩,
 ⟨some 58,.fieldAddr 43 (.tmp 57) 1,none⟩,
 ⟨some 59,.load 28 (.tmp 58),none⟩,
 ⟨some 60,.call ⟨.value (.func 34),#[.tmp 59],#[28]⟩,none⟩,
 ⟨some 61,.call ⟨.builtin .len,#[.tmp 60],#[26]⟩,none⟩,
 ⟨some 62,.binOp .add 3 (.tmp 53) (.tmp 61) 3,none⟩,
 ⟨some 3,.assign (.tmp 62),none⟩]
def f13_r10:List LOp:=[
 ⟨some 63,.binOp .add 3 (.tmp 36) (.const (.int .i64 1)) 3,none⟩,
 ⟨some 36,.move (.tmp 63),none⟩]
def f13_l11:LC:=(.seq (.reg f13_r5 [] none) (.seq (.cond (.tmp 37) .skip (.exit 0)) (.seq (.block 1 (.seq (.reg f13_r6 [] none) (.seq (.seq (.reg f13_r7 [] (some 12)) (.cond (.tmp 52) (.seq (.reg f13_r8 [] none) .ret) .skip)) (.reg f13_r9 [] none)))) (.reg f13_r10 [] none))))
def f13_i11 (t1 t3 t35 t36:D):List D:=[.any,t1,.any,t3,.any,.any,.any,.any,.any,.any,.any,.any,.any,.any,.any,.any,.any,.any,.any,.any,.any,.any,.any,.any,.any,.any,.any,.any,.any,.any,.any,.any,.any,.any,.any,t35,t36,.any,.any,.any,.any,.any,.any,.any,.any,.any,.any,.any,.any,.any,.any,.any,.any,.any,.any,.any,.any,.any,.any,.any,.any,.any,.any,.any,.any,.any]
def f13_r12:List LOp:=[
 ⟨some 64,.move (.tmp 3),none⟩,
 ⟨some 65,.binOp .leq 3 (.tmp 64) (.const (.int .i64 2000)) 3,none⟩,
 ⟨some 2,.assign (.tmp 65),none⟩]
def f13_c:LC:=(.seq (.reg f13_r0 [] none) (.seq (.seq (.reg f13_r1 [] none) (.cond (.tmp 32) (.seq (.reg f13_r2 [] none) .ret) .skip)) (.seq (.reg f13_r3 [] none) (.seq (.seq (.reg f13_r4 [] none) (.block 0 (.loop f13_l11))) (.seq (.reg f13_r12 [] none) .ret)))))
theorem f13_lc:Tryz.f13.body.map lc=some f13_c.st:=by kernel_rfl
theorem f13_res:Tryz.f13.results.toList=[.tmp 2]:=by kernel_rfl
theorem f13_nt:Tryz.f13.ntmps=66:=by kernel_rfl
theorem f13_nm : (Tryz.f13.name == "runtime.NumGoroutine") = false := by kernel_rfl
def f14_r0:List LOp:=[
 ⟨some 0,.assign (.const (.bool false)),none⟩]
def f14_r1:List LOp:=[
 ⟨some 8,.buildSlice 22 2 #[(0,.const (.string { data:=#[97] })),(1,.const (.string { data:=#[98] }))],none⟩,
 ⟨some 9,.call { callee:=.value (.func 41),args:=#[.const (.string { data:=#[115,32,61,32,97,32,115,32,98,32,124,32,40,41,10] }),.tmp 8],argTypes:=#[9,22] },none⟩,
 ⟨some 7,.move (.tmp 9),none⟩,
 ⟨some 10,.extract (.tmp 7) 0,none⟩,
 ⟨some 11,.extract (.tmp 7) 1,none⟩,
 ⟨some 12,.extract (.tmp 7) 2,none⟩,
 ⟨some 1,.alloc 25,none⟩,
 ⟨none,.store 25 (.tmp 1) (.tmp 10),none⟩,
 ⟨some 2,.assign (.tmp 11),none⟩,
 ⟨some 3,.assign (.tmp 12),none⟩]
def f14_r2:List LOp:=[
 ⟨some 14,.load 25 (.tmp 1),none⟩,
 ⟨some 15,.call ⟨.value (.func 15),#[.tmp 14],#[25]⟩,none⟩,
 ⟨some 13,.move (.tmp 15),none⟩,
 ⟨some 16,.extract (.tmp 13) 0,none⟩,
 ⟨some 17,.extract (.tmp 13) 1,none⟩,
 ⟨some 4,.assign (.tmp 16),none⟩,
 ⟨some 5,.assign (.tmp 17),none⟩]
def f14_r3:List LOp:=[
 ⟨some 18,.build 28 #[(0,.const (.int .u8 6))],none⟩,
 ⟨some 6,.alloc 28,none⟩,
 ⟨none,.store 28 (.tmp 6) (.tmp 18),none⟩]
def f14_r4:List LOp:=[
 ⟨some 19,.move (.tmp 3),none⟩,
 ⟨some 20,.binOp .eql 33 (.tmp 19) (.const (.int .i64 0)) 33,none⟩,
 ⟨some 21,.move (.tmp 20),none⟩,
 ⟨some 22,.move (.tmp 5),some (2,true)⟩,
 ⟨some 23,.binOp .eql 33 (.tmp 22) (.const (.int .i64 0)) 33,some (2,true)⟩,
 ⟨some 24,.pick (.tmp 21) (.tmp 23) (.const (.bool false)),none⟩,
 ⟨some 25,.move (.tmp 24),none⟩,
 ⟨some 26,.move (.tmp 4),some (6,true)⟩,
 ⟨some 27,.load 28 (.tmp 6),some (6,true)⟩,
 ⟨some 28,.buildSlice 26 1 #[(0,.tmp 27)],some (6,true)⟩,
 ⟨some 29,.call ⟨.value (.func 23),#[.tmp 26,.tmp 28],#[32,26]⟩,some (6,true)⟩,
 ⟨some 30,.pick (.tmp 25) (.tmp 29) (.const (.bool false)),none⟩,
 ⟨some 31,.move (.tmp 30),none⟩,
 ⟨some 32,.move (.tmp 4),some (12,true)⟩,
 ⟨some 33,.load 28 (.tmp 6),some (12,true)⟩,
 ⟨some 34,.call ⟨.value (.func 18),#[.tmp 32,.tmp 33],#[32,28]⟩,some (12,true)⟩,
 ⟨some 35,.buildSlice 36 1 #[(0,.const (.int .i64 0))],some (12,true)⟩,
 ⟨some 36,.call ⟨.value (.func 17),#[.tmp 34,.tmp 35],#[36,36]⟩,some (12,true)⟩,
 ⟨some 37,.pick (.tmp 31) (.tmp 36) (.const (.bool false)),none⟩,
 ⟨some 38,.move (.tmp 37),none⟩,
 ⟨some 39,.move (.tmp 4),some (19,true)⟩,
 ⟨some 40,.load 28 (.tmp 6),some (19,true)⟩,
 ⟨some 41,.call ⟨.value (.func 19),#[.tmp 39,.tmp 40],#[32,28]⟩,some (19,true)⟩,
 ⟨some 42,.buildSlice 36 1 #[(0,.const (.int .i64 0))],some (19,true)⟩,
 ⟨some 43,.call ⟨.value (.func 17),#[.tmp 41,.tmp 42],#[36,36]⟩,some (19,true)⟩,
 ⟨some 44,.pick (.tmp 38) (.tmp 43) (.const (.bool false)),none⟩,
 ⟨some 0,.assign (.tmp 44),none⟩]
def f14_c:LC:=(.seq (.reg f14_r0 [] none) (.seq (.reg f14_r1 [] none) (.seq (.reg f14_r2 [] none) (.seq (.reg f14_r3 [] none) (.seq (.reg f14_r4 [] none) .ret)))))
theorem f14_lc:Tryz.f14.body.map lc=some f14_c.st:=by kernel_rfl
theorem f14_res:Tryz.f14.results.toList=[.tmp 0]:=by kernel_rfl
theorem f14_nt:Tryz.f14.ntmps=45:=by kernel_rfl
theorem f14_nm : (Tryz.f14.name == "runtime.NumGoroutine") = false := by kernel_rfl
def f15_r0:List LOp:=[
 ⟨some 1,.box 25 (.tmp 0),none⟩,
 ⟨some 2,.assign (.const (.pointer none)),none⟩,
 ⟨some 3,.assign (.const (.int .i64 0)),none⟩]
def f15_r1:List LOp:=[
 ⟨some 4,.load 25 (.tmp 1),none⟩,
 ⟨some 5,.buildSlice 56 1 #[(0,.tmp 4)],none⟩,
 ⟨some 6,.call ⟨.value (.func 42),#[.tmp 5],#[56]⟩,none⟩,
 ⟨some 7,.unOp .not 4 (.tmp 6),none⟩]
def f15_r2:List LOp:=[
 ⟨some 2,.assign (.const (.pointer none)),none⟩,
 ⟨some 3,.assign (.const (.int .i64 1)),none⟩]
def f15_r3:List LOp:=[
 ⟨some 8,.load 25 (.tmp 1),none⟩,
 ⟨some 9,.call ⟨.value (.func 43),#[.tmp 8],#[25]⟩,none⟩,
 ⟨some 10,.build 88 #[(0,.tmp 9)],none⟩,
 ⟨some 11,.box 88 (.tmp 10),none⟩,
 ⟨some 2,.assign (.tmp 11),none⟩,
 ⟨some 3,.assign (.const (.int .i64 0)),none⟩]
def f15_c:LC:=(.seq (.reg f15_r0 [] none) (.seq (.seq (.reg f15_r1 [] none) (.cond (.tmp 7) (.seq (.reg f15_r2 [] none) .ret) .skip)) (.seq (.reg f15_r3 [3] none) .ret)))
theorem f15_lc:Tryz.f15.body.map lc=some f15_c.st:=by kernel_rfl
theorem f15_res:Tryz.f15.results.toList=[.tmp 2,.tmp 3]:=by kernel_rfl
theorem f15_nt:Tryz.f15.ntmps=12:=by kernel_rfl
theorem f15_nm : (Tryz.f15.name == "runtime.NumGoroutine") = false := by kernel_rfl
def f16_r0:List LOp:=[
 ⟨some 2,.box 25 (.tmp 0),none⟩,
 ⟨some 3,.box 28 (.tmp 1),none⟩,
 ⟨some 4,.assign (.const (.slice none 0 0)),none⟩]
def f16_r1:List LOp:=[
 ⟨some 5,.load 25 (.tmp 2),none⟩,
 ⟨some 6,.load 28 (.tmp 3),none⟩,
 ⟨some 7,.call ⟨.value (.func 44),#[.tmp 5,.tmp 6],#[25,28]⟩,none⟩,
 ⟨some 8,.unOp .not 4 (.tmp 7),none⟩]
def f16_r2:List LOp:=[
 ⟨some 9,.buildSlice 36 0 #[],none⟩,
 ⟨some 4,.assign (.tmp 9),none⟩]
def f16_r3:List LOp:=[
 ⟨some 10,.load 25 (.tmp 2),none⟩,
 ⟨some 11,.call ⟨.value (.func 46),#[.tmp 10],#[25]⟩,none⟩,
 ⟨some 12,.load 28 (.tmp 3),none⟩,
 ⟨some 13,.call ⟨.value (.func 47),#[.tmp 11,.tmp 12],#[93,28]⟩,none⟩,
 ⟨some 14,.call ⟨.value (.func 45),#[.tmp 13],#[83]⟩,none⟩,
 ⟨some 4,.assign (.tmp 14),none⟩]
def f16_c:LC:=(.seq (.reg f16_r0 [] none) (.seq (.seq (.reg f16_r1 [] none) (.cond (.tmp 8) (.seq (.reg f16_r2 [0] none) .ret) .skip)) (.seq (.reg f16_r3 [] (some 3)) .ret)))
theorem f16_lc:Tryz.f16.body.map lc=some f16_c.st:=by kernel_rfl
theorem f16_res:Tryz.f16.results.toList=[.tmp 4]:=by kernel_rfl
theorem f16_nt:Tryz.f16.ntmps=15:=by kernel_rfl
theorem f16_nm : (Tryz.f16.name == "runtime.NumGoroutine") = false := by kernel_rfl
def f17_r0:List LOp:=[
 ⟨some 4,.assign (.const (.bool false)),none⟩]
def f17_r1:List LOp:=[
 ⟨some 6,.move (.tmp 0),none⟩,
 ⟨some 7,.call ⟨.builtin .len,#[.tmp 6],#[36]⟩,none⟩,
 ⟨some 8,.move (.tmp 1),none⟩,
 ⟨some 9,.call ⟨.builtin .len,#[.tmp 8],#[36]⟩,none⟩,
 ⟨some 10,.binOp .neq 3 (.tmp 7) (.tmp 9) 3,none⟩]
def f17_r2:List LOp:=[
 ⟨some 4,.assign (.const (.bool false)),none⟩]
def f17_r3:List LOp:=[
 ⟨some 11,.move (.tmp 0),none⟩,
 ⟨some 12,.call ⟨.builtin .len,#[.tmp 11],#[36]⟩,none⟩,
 ⟨some 13,.move (.const (.int .i64 0)),none⟩]
def f17_r4:List LOp:=[
 ⟨some 14,.binOp .lss 3 (.tmp 13) (.tmp 12) 3,none⟩]
def f17_r5:List LOp:=[
 ⟨some 15,.move (.tmp 13),none⟩,
 ⟨some 5,.assign (.tmp 15),none⟩]
def f17_r6:List LOp:=[
 ⟨some 16,.move (.tmp 0),none⟩,
 ⟨some 17,.move (.tmp 5),none⟩,
 ⟨some 18,.indexAddr 36 (.tmp 16) (.tmp 17),none⟩,
 ⟨some 19,.load 3 (.tmp 18),none⟩,
 ⟨some 20,.move (.tmp 1),none⟩,
 ⟨some 21,.move (.tmp 5),none⟩,
 ⟨some 22,.indexAddr 36 (.tmp 20) (.tmp 21),none⟩,
 ⟨some 23,.load 3 (.tmp 22),none⟩,
 ⟨some 24,.binOp .neq 3 (.tmp 19) (.tmp 23) 3,none⟩]
def f17_r7:List LOp:=[
 ⟨some 4,.assign (.const (.bool false)),none⟩]
def f17_r8:List LOp:=[
 ⟨some 25,.binOp .add 3 (.tmp 13) (.const (.int .i64 1)) 3,none⟩,
 ⟨some 13,.move (.tmp 25),none⟩]
def f17_l9:LC:=(.seq (.reg f17_r4 [] none) (.seq (.cond (.tmp 14) .skip (.exit 0)) (.seq (.block 1 (.seq (.reg f17_r5 [] none) (.seq (.reg f17_r6 [] (some 8)) (.cond (.tmp 24) (.seq (.reg f17_r7 [] none) .ret) .skip)))) (.reg f17_r8 [] none))))
def f17_i9 (t0 t1 t12 t13:D):List D:=[t0,t1,.any,.any,.any,.any,.any,.any,.any,.any,.any,.any,t12,t13,.any,.any,.any,.any,.any,.any,.any,.any,.any,.any,.any,.any]
def f17_r10:List LOp:=[
 ⟨some 4,.assign (.const (.bool true)),none⟩]
def f17_c:LC:=(.seq (.reg f17_r0 [] none) (.seq (.seq (.reg f17_r1 [] none) (.cond (.tmp 10) (.seq (.reg f17_r2 [] none) .ret) .skip)) (.seq (.seq (.reg f17_r3 [] none) (.block 0 (.loop f17_l9))) (.seq (.reg f17_r10 [] none) .ret))))
theorem f17_lc:Tryz.f17.body.map lc=some f17_c.st:=by kernel_rfl
theorem f17_res:Tryz.f17.results.toList=[.tmp 4]:=by kernel_rfl
theorem f17_nt:Tryz.f17.ntmps=26:=by kernel_rfl
theorem f17_nm : (Tryz.f17.name == "runtime.NumGoroutine") = false := by kernel_rfl
def f18_r0:List LOp:=[
 ⟨some 3,.box 28 (.tmp 1),none⟩,
 ⟨some 4,.assign (.const (.slice none 0 0)),none⟩]
def f18_r1:List LOp:=[
 ⟨some 6,.move (.tmp 0),none⟩,
 ⟨some 7,.load 28 (.tmp 3),none⟩,
 ⟨some 8,.buildSlice 26 1 #[(0,.tmp 7)],none⟩,
 ⟨some 9,.call ⟨.value (.func 48),#[.tmp 6,.tmp 8],#[32,26]⟩,none⟩,
 ⟨some 5,.assign (.tmp 9),none⟩]
def f18_r2:List LOp:=[
 ⟨some 10,.move (.tmp 5),none⟩,
 ⟨some 11,.binOp .eql 96 (.tmp 10) (.const (.pointer none)) 96,none⟩]
def f18_r3:List LOp:=[
 ⟨some 4,.assign (.const (.slice none 0 0)),none⟩]
def f18_r4:List LOp:=[
 ⟨some 12,.move (.tmp 5),none⟩,
 ⟨some 13,.load 28 (.tmp 3),none⟩,
 ⟨some 14,.move (.tmp 0),none⟩,
 ⟨some 15,.nilCheck (.tmp 14),none⟩,
 ⟨some 16,.fieldAddr 88 (.tmp 15) 0,none⟩,
 ⟨some 17,.fieldAddr 25 (.tmp 16) 0,none⟩,
 ⟨some 18,.load 22 (.tmp 17),none⟩,
 ⟨some 19,.call ⟨.builtin .len,#[.tmp 18],#[22]⟩,none⟩,
 ⟨some 20,.call ⟨.value (.func 50),#[.tmp 12,.tmp 13,.tmp 19],#[96,28,3]⟩,none⟩,
 ⟨some 21,.call ⟨.value (.func 49),#[.tmp 20],#[99]⟩,none⟩,
 ⟨some 4,.assign (.tmp 21),none⟩]
def f18_c:LC:=(.seq (.reg f18_r0 [] none) (.seq (.reg f18_r1 [] none) (.seq (.seq (.reg f18_r2 [] none) (.cond (.tmp 11) (.seq (.reg f18_r3 [] none) .ret) .skip)) (.seq (.reg f18_r4 [] (some 8)) .ret))))
theorem f18_lc:Tryz.f18.body.map lc=some f18_c.st:=by kernel_rfl
theorem f18_res:Tryz.f18.results.toList=[.tmp 4]:=by kernel_rfl
theorem f18_nt:Tryz.f18.ntmps=22:=by kernel_rfl
theorem f18_nm : (Tryz.f18.name == "runtime.NumGoroutine") = false := by kernel_rfl
def f19_r0:List LOp:=[
 ⟨some 3,.box 28 (.tmp 1),none⟩,
 ⟨some 4,.assign (.const (.slice none 0 0)),none⟩]
def f19_r1:List LOp:=[
 ⟨some 6,.move (.tmp 0),none⟩,
 ⟨some 7,.load 28 (.tmp 3),none⟩,
 ⟨some 8,.buildSlice 26 1 #[(0,.tmp 7)],none⟩,
 ⟨some 9,.call ⟨.value (.func 48),#[.tmp 6,.tmp 8],#[32,26]⟩,none⟩,
 ⟨some 5,.assign (.tmp 9),none⟩]
def f19_r2:List LOp:=[
 ⟨some 10,.move (.tmp 5),none⟩,
 ⟨some 11,.binOp .eql 96 (.tmp 10) (.const (.pointer none)) 96,none⟩]
def f19_r3:List LOp:=[
 ⟨some 4,.assign (.const (.slice none 0 0)),none⟩]
def f19_r4:List LOp:=[
 ⟨some 12,.move (.tmp 5),none⟩,
 ⟨some 13,.load 28 (.tmp 3),none⟩,
 ⟨some 14,.move (.tmp 0),none⟩,
 ⟨some 15,.nilCheck (.tmp 14),none⟩,
 ⟨some 16,.fieldAddr 88 (.tmp 15) 0,none⟩,
 ⟨some 17,.fieldAddr 25 (.tmp 16) 0,none⟩,
 ⟨some 18,.load 22 (.tmp 17),none⟩,
 ⟨some 19,.call ⟨.builtin .len,#[.tmp 18],#[22]⟩,none⟩,
 ⟨some 20,.call ⟨.value (.func 51),#[.tmp 12,.tmp 13,.tmp 19],#[96,28,3]⟩,none⟩,
 ⟨some 21,.call ⟨.value (.func 49),#[.tmp 20],#[99]⟩,none⟩,
 ⟨some 4,.assign (.tmp 21),none⟩]
def f19_c:LC:=(.seq (.reg f19_r0 [] none) (.seq (.reg f19_r1 [] none) (.seq (.seq (.reg f19_r2 [] none) (.cond (.tmp 11) (.seq (.reg f19_r3 [] none) .ret) .skip)) (.seq (.reg f19_r4 [] (some 8)) .ret))))
theorem f19_lc:Tryz.f19.body.map lc=some f19_c.st:=by kernel_rfl
theorem f19_res:Tryz.f19.results.toList=[.tmp 4]:=by kernel_rfl
theorem f19_nt:Tryz.f19.ntmps=22:=by kernel_rfl
theorem f19_nm : (Tryz.f19.name == "runtime.NumGoroutine") = false := by kernel_rfl
def f20_r0:List LOp:=[
 ⟨some 2,.box 25 (.tmp 0),none⟩,
 ⟨some 3,.box 28 (.tmp 1),none⟩,
 ⟨some 4,.assign (.const (.slice none 0 0)),none⟩]
def f20_r1:List LOp:=[
 ⟨some 5,.load 25 (.tmp 2),none⟩,
 ⟨some 6,.load 28 (.tmp 3),none⟩,
 ⟨some 7,.call ⟨.value (.func 44),#[.tmp 5,.tmp 6],#[25,28]⟩,none⟩,
 ⟨some 8,.unOp .not 4 (.tmp 7),none⟩]
def f20_r2:List LOp:=[
 ⟨some 9,.buildSlice 36 0 #[],none⟩,
 ⟨some 4,.assign (.tmp 9),none⟩]
def f20_r3:List LOp:=[
 ⟨some 10,.load 25 (.tmp 2),none⟩,
 ⟨some 11,.call ⟨.value (.func 46),#[.tmp 10],#[25]⟩,none⟩,
 ⟨some 12,.load 28 (.tmp 3),none⟩,
 ⟨some 13,.call ⟨.value (.func 52),#[.tmp 11,.tmp 12],#[93,28]⟩,none⟩,
 ⟨some 14,.call ⟨.value (.func 45),#[.tmp 13],#[83]⟩,none⟩,
 ⟨some 4,.assign (.tmp 14),none⟩]
def f20_c:LC:=(.seq (.reg f20_r0 [] none) (.seq (.seq (.reg f20_r1 [] none) (.cond (.tmp 8) (.seq (.reg f20_r2 [0] none) .ret) .skip)) (.seq (.reg f20_r3 [] (some 3)) .ret)))
theorem f20_lc:Tryz.f20.body.map lc=some f20_c.st:=by kernel_rfl
theorem f20_res:Tryz.f20.results.toList=[.tmp 4]:=by kernel_rfl
theorem f20_nt:Tryz.f20.ntmps=15:=by kernel_rfl
theorem f20_nm : (Tryz.f20.name == "runtime.NumGoroutine") = false := by kernel_rfl
def f21_r0:List LOp:=[
 ⟨some 4,.box 28 (.tmp 1),none⟩,
 ⟨some 6,.assign (.const (.bool false)),none⟩]
def f21_r1:List LOp:=[
 ⟨some 7,.move (.tmp 0),none⟩,
 ⟨some 8,.load 28 (.tmp 4),none⟩,
 ⟨some 9,.call ⟨.value (.func 18),#[.tmp 7,.tmp 8],#[32,28]⟩,none⟩,
 ⟨some 10,.move (.tmp 2),none⟩,
 ⟨some 11,.call ⟨.value (.func 53),#[.tmp 9,.tmp 10],#[36,3]⟩,none⟩,
 ⟨some 6,.assign (.tmp 11),none⟩]
def f21_c:LC:=(.seq (.reg f21_r0 [] none) (.seq (.reg f21_r1 [] none) .ret))
theorem f21_lc:Tryz.f21.body.map lc=some f21_c.st:=by kernel_rfl
theorem f21_res:Tryz.f21.results.toList=[.tmp 6]:=by kernel_rfl
theorem f21_nt:Tryz.f21.ntmps=12:=by kernel_rfl
theorem f21_nm : (Tryz.f21.name == "runtime.NumGoroutine") = false := by kernel_rfl
def f23_r0:List LOp:=[
 ⟨some 4,.assign (.const (.bool false)),none⟩]
def f23_r1:List LOp:=[
 ⟨some 6,.move (.tmp 0),none⟩,
 ⟨some 7,.move (.tmp 1),none⟩,
 ⟨some 8,.call ⟨.value (.func 48),#[.tmp 6,.tmp 7],#[32,26]⟩,none⟩,
 ⟨some 5,.alloc 96,none⟩,
 ⟨none,.store 96 (.tmp 5) (.tmp 8),none⟩]
def f23_r2:List LOp:=[
 ⟨some 9,.load 96 (.tmp 5),none⟩,
 ⟨some 10,.binOp .neq 96 (.tmp 9) (.const (.pointer none)) 96,none⟩,
 ⟨some 11,.move (.tmp 10),none⟩,
 ⟨some 12,.move (.tmp 1),some (2,true)⟩,
 ⟨some 13,.makeFunc (.func 57) #[] #[.tmp 5],some (2,true)⟩,
 ⟨some 14,.call ⟨.value (.func 54),#[.tmp 12,.tmp 13],#[26,30]⟩,some (2,true)⟩,
 ⟨some 15,.unOp .not 4 (.tmp 14),some (2,true)⟩,
 ⟨some 16,.pick (.tmp 11) (.tmp 15) (.const (.bool false)),none⟩,
 ⟨some 4,.assign (.tmp 16),none⟩]
def f23_c:LC:=(.seq (.reg f23_r0 [] none) (.seq (.reg f23_r1 [] none) (.seq (.reg f23_r2 [] none) .ret)))
theorem f23_lc:Tryz.f23.body.map lc=some f23_c.st:=by kernel_rfl
theorem f23_res:Tryz.f23.results.toList=[.tmp 4]:=by kernel_rfl
theorem f23_nt:Tryz.f23.ntmps=17:=by kernel_rfl
theorem f23_nm : (Tryz.f23.name == "runtime.NumGoroutine") = false := by kernel_rfl
def f34_r0:List LOp:=[
 ⟨some 1,.box 28 (.tmp 0),none⟩,
 ⟨some 2,.assign (.const (.slice none 0 0)),none⟩]
def f34_r1:List LOp:=[
 ⟨some 5,.load 28 (.tmp 1),none⟩,
 ⟨some 6,.buildSlice 26 1 #[(0,.tmp 5)],none⟩,
 ⟨some 3,.assign (.tmp 6),none⟩]
def f34_r2:List LOp:=[
 ⟨some 7,.fieldAddr 28 (.tmp 1) 2,none⟩,
 ⟨some 8,.load 26 (.tmp 7),none⟩,
 ⟨some 9,.call ⟨.builtin .len,#[.tmp 8],#[26]⟩,none⟩,
 ⟨some 10,.move (.const (.int .i64 0)),none⟩]
def f34_r3:List LOp:=[
 ⟨some 11,.binOp .lss 3 (.tmp 10) (.tmp 9) 3,none⟩]
def f34_r4:List LOp:=[
 ⟨some 12,.move (.tmp 10),none⟩,
 ⟨some 4,.assign (.tmp 12),none⟩]
def f34_r5:List LOp:=[
 ⟨some 13,.move (.tmp 3),none⟩,
 ⟨some 14,.fieldAddr 28 (.tmp 1) 2,none⟩,
 ⟨some 15,.load 26 (.tmp 14),none⟩,
 ⟨some 16,.move (.tmp 4),none⟩,
 ⟨some 17,.indexAddr 26 (.tmp 15) (.tmp 16),none⟩,
 ⟨some 18,.load 28 (.tmp 17),none⟩,
 ⟨some 19,.call ⟨.value (.func 34),#[.tmp 18],#[28]⟩,none⟩,
 ⟨some 20,.call ⟨.builtin .append,#[.tmp 13,.tmp 19],#[26,26]⟩,none⟩,
 ⟨some 3,.assign (.tmp 20),none⟩]
def f34_r6:List LOp:=[
 ⟨some 21,.binOp .add 3 (.tmp 10) (.const (.int .i64 1)) 3,none⟩,
 ⟨some 10,.move (.tmp 21),none⟩]
def f34_l7:LC:=(.seq (.reg f34_r3 [] none) (.seq (.cond (.tmp 11) .skip (.exit 0)) (.seq (.block 1 (.seq (.reg f34_r4 [] none) (.reg f34_r5 [] none))) (.reg f34_r6 [] none))))
def f34_i7 (t1 t3 t9 t10:D):List D:=[.any,t1,.any,t3,.any,.any,.any,.any,.any,t9,t10,.any,.any,.any,.any,.any,.any,.any,.any,.any,.any,.any,.any]
def f34_r8:List LOp:=[
 ⟨some 22,.move (.tmp 3),none⟩,
 ⟨some 2,.assign (.tmp 22),none⟩]
def f34_c:LC:=(.seq (.reg f34_r0 [] none) (.seq (.reg f34_r1 [1] none) (.seq (.seq (.reg f34_r2 [] none) (.block 0 (.loop f34_l7))) (.seq (.reg f34_r8 [] none) .ret))))
theorem f34_lc:Tryz.f34.body.map lc=some f34_c.st:=by kernel_rfl
theorem f34_res:Tryz.f34.results.toList=[.tmp 2]:=by kernel_rfl
theorem f34_nt:Tryz.f34.ntmps=23:=by kernel_rfl
theorem f34_nm : (Tryz.f34.name == "runtime.NumGoroutine") = false := by kernel_rfl
def f37_r0:List LOp:=[
 ⟨some 2,.box 28 (.tmp 0),none⟩,
 ⟨some 4,.assign (.const (.int .i64 0)),none⟩]
def f37_r1:List LOp:=[
 ⟨some 5,.assign (.const (.int .i64 1)),none⟩]
def f37_r2:List LOp:=[
 ⟨some 7,.fieldAddr 28 (.tmp 2) 2,none⟩,
 ⟨some 8,.load 26 (.tmp 7),none⟩,
 ⟨some 9,.call ⟨.builtin .len,#[.tmp 8],#[26]⟩,none⟩,
 ⟨some 10,.move (.const (.int .i64 0)),none⟩]
def f37_r3:List LOp:=[
 ⟨some 11,.binOp .lss 3 (.tmp 10) (.tmp 9) 3,none⟩]
def f37_r4:List LOp:=[
 ⟨some 12,.move (.tmp 10),none⟩,
 ⟨some 6,.assign (.tmp 12),none⟩]
def f37_r5:List LOp:=[
 ⟨some 13,.move (.tmp 5),none⟩,
 ⟨some 14,.move (.tmp 1),none⟩,
 ⟨some 15,.binOp .gtr 3 (.tmp 13) (.tmp 14) 3,none⟩]
def f37_r6:List LOp:=[
 ⟨some 16,.move (.tmp 5),none⟩,
 ⟨some 4,.assign (.tmp 16),none⟩]
def f37_r7:List LOp:=[
 ⟨some 17,.move (.tmp 5),none⟩,
 ⟨some 18,.fieldAddr 28 (.tmp 2) 2,none⟩,
 ⟨some 19,.load 26 (.tmp 18),none⟩,
 ⟨some 20,.move (.tmp 6),none⟩,
 ⟨some 21,.indexAddr 26 (.tmp 19) (.tmp 20),none⟩,
 ⟨some 22,.load 28 (.tmp 21),none⟩,
 ⟨some 23,.move (.tmp 1),none⟩,
 ⟨some 24,.call ⟨.value (.func 37),#[.tmp 22,.tmp 23],#[28,3]⟩,none⟩,
 ⟨some 25,.binOp .add 3 (.tmp 17) (.tmp 24) 3,none⟩,
 ⟨some 5,.assign (.tmp 25),none⟩]
def f37_r8:List LOp:=[
 ⟨some 26,.binOp .add 3 (.tmp 10) (.const (.int .i64 1)) 3,none⟩,
 ⟨some 10,.move (.tmp 26),none⟩]
def f37_l9:LC:=(.seq (.reg f37_r3 [] none) (.seq (.cond (.tmp 11) .skip (.exit 0)) (.seq (.block 1 (.seq (.reg f37_r4 [] none) (.seq (.seq (.reg f37_r5 [] none) (.cond (.tmp 15) (.seq (.reg f37_r6 [] none) .ret) .skip)) (.reg f37_r7 [] none)))) (.reg f37_r8 [] none))))
def f37_i9 (t1 t2 t5 t9 t10:D):List D:=[.any,t1,t2,.any,.any,t5,.any,.any,.any,t9,t10,.any,.any,.any,.any,.any,.any,.any,.any,.any,.any,.any,.any,.any,.any,.any,.any,.any]
def f37_r10:List LOp:=[
 ⟨some 27,.move (.tmp 5),none⟩,
 ⟨some 4,.assign (.tmp 27),none⟩]
def f37_c:LC:=(.seq (.reg f37_r0 [] none) (.seq (.reg f37_r1 [] none) (.seq (.seq (.reg f37_r2 [] none) (.block 0 (.loop f37_l9))) (.seq (.reg f37_r10 [] none) .ret))))
theorem f37_lc:Tryz.f37.body.map lc=some f37_c.st:=by kernel_rfl
theorem f37_res:Tryz.f37.results.toList=[.tmp 4]:=by kernel_rfl
theorem f37_nt:Tryz.f37.ntmps=28:=by kernel_rfl
theorem f37_nm : (Tryz.f37.name == "runtime.NumGoroutine") = false := by kernel_rfl
def f38_r0:List LOp:=[
 ⟨some 2,.assign (.const (.bool false)),none⟩]
def f38_r1:List LOp:=[
 ⟨some 4,.move (.tmp 0),none⟩,
 ⟨some 5,.call ⟨.builtin .len,#[.tmp 4],#[22]⟩,none⟩,
 ⟨some 6,.move (.const (.int .i64 0)),none⟩]
def f38_r2:List LOp:=[
 ⟨some 7,.binOp .lss 3 (.tmp 6) (.tmp 5) 3,none⟩]
def f38_r3:List LOp:=[
 ⟨some 8,.move (.tmp 6),none⟩,
 ⟨some 3,.assign (.tmp 8),none⟩]
def f38_r4:List LOp:=[
 ⟨some 9,.move (.tmp 0),none⟩,
 ⟨some 10,.move (.tmp 3),none⟩,
 ⟨some 11,.indexAddr 22 (.tmp 9) (.tmp 10),none⟩,
 ⟨some 12,.load 9 (.tmp 11),none⟩,
 ⟨some 13,.call ⟨.value (.func 69),#[.tmp 12],#[9]⟩,none⟩,
 ⟨some 14,.unOp .not 4 (.tmp 13),none⟩,
 ⟨some 15,.move (.tmp 14),none⟩,
 ⟨some 16,.move (.tmp 0),some (6,false)⟩,
 ⟨some 17,.move (.tmp 3),some (6,false)⟩,
 ⟨some 18,.slice 22 (.tmp 16) none (some (.tmp 17)) none,some (6,false)⟩,
 ⟨some 19,.move (.tmp 0),some (6,false)⟩,
 ⟨some 20,.move (.tmp 3),some (6,false)⟩,
 ⟨some 21,.indexAddr 22 (.tmp 19) (.tmp 20),some (6,false)⟩,
 ⟨some 22,.load 9 (.tmp 21),some (6,false)⟩,
 ⟨some 23,.call ⟨.value (.func 70),#[.tmp 18,.tmp 22],#[22,9]⟩,some (6,false)⟩,
 ⟨some 24,.pick (.tmp 15) (.const (.bool true)) (.tmp 23),none⟩]
def f38_r5:List LOp:=[
 ⟨some 2,.assign (.const (.bool false)),none⟩]
def f38_r6:List LOp:=[
 ⟨some 25,.binOp .add 3 (.tmp 6) (.const (.int .i64 1)) 3,none⟩,
 ⟨some 6,.move (.tmp 25),none⟩]
def f38_l7:LC:=(.seq (.reg f38_r2 [] none) (.seq (.cond (.tmp 7) .skip (.exit 0)) (.seq (.block 1 (.seq (.reg f38_r3 [] none) (.seq (.reg f38_r4 [] (some 14)) (.cond (.tmp 24) (.seq (.reg f38_r5 [] none) .ret) .skip)))) (.reg f38_r6 [] none))))
def f38_i7 (t0 t5 t6:D):List D:=[t0,.any,.any,.any,.any,t5,t6,.any,.any,.any,.any,.any,.any,.any,.any,.any,.any,.any,.any,.any,.any,.any,.any,.any,.any,.any]
def f38_r8:List LOp:=[
 ⟨some 2,.assign (.const (.bool true)),none⟩]
def f38_c:LC:=(.seq (.reg f38_r0 [] none) (.seq (.seq (.reg f38_r1 [] none) (.block 0 (.loop f38_l7))) (.seq (.reg f38_r8 [] none) .ret)))
theorem f38_lc:Tryz.f38.body.map lc=some f38_c.st:=by kernel_rfl
theorem f38_res:Tryz.f38.results.toList=[.tmp 2]:=by kernel_rfl
theorem f38_nt:Tryz.f38.ntmps=26:=by kernel_rfl
theorem f38_nm : (Tryz.f38.name == "runtime.NumGoroutine") = false := by kernel_rfl
def f39_r0:List LOp:=[
 ⟨some 1,.box 25 (.tmp 0),none⟩,
 ⟨some 2,.assign (.const (.slice none 0 0)),none⟩]
def f39_r1:List LOp:=[
 ⟨some 5,.buildSlice 22 0 #[],none⟩,
 ⟨some 6,.fieldAddr 25 (.tmp 1) 0,none⟩,
 ⟨some 7,.load 22 (.tmp 6),none⟩,
 ⟨some 8,.call ⟨.builtin .append,#[.tmp 5,.tmp 7],#[22,22]⟩,none⟩,
 ⟨some 3,.assign (.tmp 8),none⟩]
def f39_r2:List LOp:=[
 ⟨some 9,.fieldAddr 25 (.tmp 1) 1,none⟩,
 ⟨some 10,.load 23 (.tmp 9),none⟩,
 ⟨some 11,.call ⟨.builtin .len,#[.tmp 10],#[23]⟩,none⟩,
 ⟨some 12,.move (.const (.int .i64 0)),none⟩]
def f39_r3:List LOp:=[
 ⟨some 13,.binOp .lss 3 (.tmp 12) (.tmp 11) 3,none⟩]
def f39_r4:List LOp:=[
 ⟨some 14,.move (.tmp 12),none⟩,
 ⟨some 4,.assign (.tmp 14),none⟩]
def f39_r5:List LOp:=[
 ⟨some 15,.move (.tmp 3),none⟩,
 ⟨some 16,.fieldAddr 25 (.tmp 1) 1,none⟩,
 ⟨some 17,.load 23 (.tmp 16),none⟩,
 ⟨some 18,.move (.tmp 4),none⟩,
 ⟨some 19,.indexAddr 23 (.tmp 17) (.tmp 18),none⟩,
 ⟨some 20,.fieldAddr 43 (.tmp 19) 0,none⟩,
 ⟨some 21,.load 9 (.tmp 20),none⟩,
 ⟨some 22,.buildSlice 22 1 #[(0,.tmp 21)],none⟩,
 ⟨some 23,.call ⟨.builtin .append,#[.tmp 15,.tmp 22],#[22,22]⟩,none⟩,
 ⟨some 3,.assign (.tmp 23),none⟩]
def f39_r6:List LOp:=[
 ⟨some 24,.binOp .add 3 (.tmp 12) (.const (.int .i64 1)) 3,none⟩,
 ⟨some 12,.move (.tmp 24),none⟩]
def f39_l7:LC:=(.seq (.reg f39_r3 [] none) (.seq (.cond (.tmp 13) .skip (.exit 0)) (.seq (.block 1 (.seq (.reg f39_r4 [] none) (.reg f39_r5 [] none))) (.reg f39_r6 [] none))))
def f39_i7 (t1 t3 t11 t12:D):List D:=[.any,t1,.any,t3,.any,.any,.any,.any,.any,.any,.any,t11,t12,.any,.any,.any,.any,.any,.any,.any,.any,.any,.any,.any,.any,.any]
def f39_r8:List LOp:=[
 ⟨some 25,.move (.tmp 3),none⟩,
 ⟨some 2,.assign (.tmp 25),none⟩]
def f39_c:LC:=(.seq (.reg f39_r0 [] none) (.seq (.reg f39_r1 [0] none) (.seq (.seq (.reg f39_r2 [] none) (.block 0 (.loop f39_l7))) (.seq (.reg f39_r8 [] none) .ret))))
theorem f39_lc:Tryz.f39.body.map lc=some f39_c.st:=by kernel_rfl
theorem f39_res:Tryz.f39.results.toList=[.tmp 2]:=by kernel_rfl
theorem f39_nt:Tryz.f39.ntmps=26:=by kernel_rfl
theorem f39_nm : (Tryz.f39.name == "runtime.NumGoroutine") = false := by kernel_rfl
def f40_r0:List LOp:=[
 ⟨some 3,.box 28 (.tmp 0),none⟩,
 ⟨some 6,.assign (.const (.bool false)),none⟩]
def f40_r1:List LOp:=[
 ⟨some 10,.load 28 (.tmp 3),none⟩,
 ⟨some 11,.call ⟨.value (.func 34),#[.tmp 10],#[28]⟩,none⟩,
 ⟨some 7,.assign (.tmp 11),none⟩]
def f40_r2:List LOp:=[
 ⟨some 12,.move (.tmp 7),none⟩,
 ⟨some 13,.call ⟨.builtin .len,#[.tmp 12],#[26]⟩,none⟩,
 ⟨some 14,.move (.const (.int .i64 0)),none⟩]
def f40_r3:List LOp:=[
 ⟨some 15,.binOp .lss 3 (.tmp 14) (.tmp 13) 3,none⟩]
def f40_r4:List LOp:=[
 ⟨some 16,.move (.tmp 14),none⟩,
 ⟨some 8,.assign (.tmp 16),none⟩]
def f40_r5:List LOp:=[
 ⟨some 17,.move (.tmp 7),none⟩,
 ⟨some 18,.move (.tmp 8),none⟩,
 ⟨some 19,.indexAddr 26 (.tmp 17) (.tmp 18),none⟩,
 ⟨some 20,.fieldAddr 28 (.tmp 19) 0,none⟩,
 ⟨some 21,.load 5 (.tmp 20),none⟩,
 ⟨some 22,.binOp .lss 5 (.tmp 21) (.const (.int .u8 1)) 5,none⟩,
 ⟨some 23,.move (.tmp 22),none⟩,
 ⟨some 24,.move (.tmp 7),some (6,false)⟩,
 ⟨some 25,.move (.tmp 8),some (6,false)⟩,
 ⟨some 26,.indexAddr 26 (.tmp 24) (.tmp 25),some (6,false)⟩,
 ⟨some 27,.fieldAddr 28 (.tmp 26) 0,some (6,false)⟩,
 ⟨some 28,.load 5 (.tmp 27),some (6,false)⟩,
 ⟨some 29,.binOp .gtr 5 (.tmp 28) (.const (.int .u8 6)) 5,some (6,false)⟩,
 ⟨some 30,.pick (.tmp 23) (.const (.bool true)) (.tmp 29),none⟩]
def f40_r6:List LOp:=[
 ⟨some 6,.assign (.const (.bool false)),none⟩]
def f40_r7:List LOp:=[
 ⟨some 31,.move (.tmp 7),none⟩,
 ⟨some 32,.move (.tmp 8),none⟩,
 ⟨some 33,.indexAddr 26 (.tmp 31) (.tmp 32),none⟩,
 ⟨some 34,.fieldAddr 28 (.tmp 33) 2,none⟩,
 ⟨some 35,.load 26 (.tmp 34),none⟩,
 ⟨some 36,.call ⟨.builtin .len,#[.tmp 35],#[26]⟩,none⟩,
 ⟨some 37,.buildSlice 36 6 #[(0,.const (.int .i64 0)),(1,.const (.int .i64 0)),(2,.const (.int .i64 0)),(3,.const (.int .i64 2)),(4,.const (.int .i64 2)),(5,.const (.int .i64 0))],none⟩,
 ⟨some 38,.move (.tmp 7),none⟩,
 ⟨some 39,.move (.tmp 8),none⟩,
 ⟨some 40,.indexAddr 26 (.tmp 38) (.tmp 39),none⟩,
 ⟨some 41,.fieldAddr 28 (.tmp 40) 0,none⟩,
 ⟨some 42,.load 5 (.tmp 41),none⟩,
 ⟨some 43,.binOp .sub 5 (.tmp 42) (.const (.int .u8 1)) 5,none⟩,
 ⟨some 44,.indexAddr 36 (.tmp 37) (.tmp 43),none⟩,
 ⟨some 45,.load 3 (.tmp 44),none⟩,
 ⟨some 46,.binOp .neq 3 (.tmp 36) (.tmp 45) 3,none⟩]
def f40_r8:List LOp:=[
 ⟨some 6,.assign (.const (.bool false)),none⟩]
def f40_r9:List LOp:=[
 ⟨some 47,.move (.tmp 1),none⟩,
 ⟨some 48,.move (.tmp 2),none⟩,
 ⟨some 49,.buildSlice 36 6 #[(0,.const (.int .i64 1)),(1,.const (.int .i64 1)),(2,.tmp 47),(3,.const (.int .i64 1)),(4,.const (.int .i64 1)),(5,.tmp 48)],none⟩,
 ⟨some 50,.move (.tmp 7),none⟩,
 ⟨some 51,.move (.tmp 8),none⟩,
 ⟨some 52,.indexAddr 26 (.tmp 50) (.tmp 51),none⟩,
 ⟨some 53,.fieldAddr 28 (.tmp 52) 0,none⟩,
 ⟨some 54,.load 5 (.tmp 53),none⟩,
 ⟨some 55,.binOp .sub 5 (.tmp 54) (.const (.int .u8 1)) 5,none⟩,
 ⟨some 56,.indexAddr 36 (.tmp 49) (.tmp 55),none⟩,
 ⟨some 57,.load 3 (.tmp 56),none⟩,
 ⟨some 9,.assign (.tmp 57),none⟩]
def f40_r10:List LOp:=[
 ⟨some 58,.move (.tmp 7),none⟩,
 ⟨some 59,.move (.tmp 8),none⟩,
 ⟨some 60,.indexAddr 26 (.tmp 58) (.tmp 59),none⟩,
 ⟨some 61,.fieldAddr 28 (.tmp 60) 1,none⟩,
 ⟨some 62,.load 3 (.tmp 61),none⟩,
 ⟨some 63,.binOp .lss 3 (.tmp 62) (.const (.int .i64 0)) 3,none⟩,
 ⟨some 64,.move (.tmp 63),none⟩,
 ⟨some 65,.move (.tmp 7),some (6,false)⟩,
 ⟨some 66,.move (.tmp 8),some (6,false)⟩,
 ⟨some 67,.indexAddr 26 (.tmp 65) (.tmp 66),some (6,false)⟩,
 ⟨some 68,.fieldAddr 28 (.tmp 67) 1,some (6,false)⟩,
 ⟨some 69,.load 3 (.tmp 68),some (6,false)⟩,
 ⟨some 70,.move (.tmp 9),some (6,false)⟩,
 ⟨some 71,.binOp .geq 3 (.tmp 69) (.tmp 70) 3,some (6,false)⟩,
 ⟨some 72,.pick (.tmp 64) (.const (.bool true)) (.tmp 71),none⟩]
def f40_r11:List LOp:=[
 ⟨some 6,.assign (.const (.bool false)),none⟩]
def f40_r12:List LOp:=[
 ⟨some 73,.binOp .add 3 (.tmp 14) (.const (.int .i64 1)) 3,none⟩,
 ⟨some 14,.move (.tmp 73),none⟩]
def f40_l13:LC:=(.seq (.reg f40_r3 [] none) (.seq (.cond (.tmp 15) .skip (.exit 0)) (.seq (.block 1 (.seq (.reg f40_r4 [] none) (.seq (.seq (.reg f40_r5 [] none) (.cond (.tmp 30) (.seq (.reg f40_r6 [] none) .ret) .skip)) (.seq (.seq (.reg f40_r7 [] (some 16)) (.cond (.tmp 46) (.seq (.reg f40_r8 [] none) .ret) .skip)) (.seq (.reg f40_r9 [] none) (.seq (.reg f40_r10 [] none) (.cond (.tmp 72) (.seq (.reg f40_r11 [] none) .ret) .skip))))))) (.reg f40_r12 [] none))))
def f40_i13 (t1 t2 t7 t13 t14:D):List D:=[.any,t1,t2,.any,.any,.any,.any,t7,.any,.any,.any,.any,.any,t13,t14,.any,.any,.any,.any,.any,.any,.any,.any,.any,.any,.any,.any,.any,.any,.any,.any,.any,.any,.any,.any,.any,.any,.any,.any,.any,.any,.any,.any,.any,.any,.any,.any,.any,.any,.any,.any,.any,.any,.any,.any,.any,.any,.any,.any,.any,.any,.any,.any,.any,.any,.any,.any,.any,.any,.any,.any,.any,.any,.any]
def f40_r14:List LOp:=[
 ⟨some 6,.assign (.const (.bool true)),none⟩]
def f40_c:LC:=(.seq (.reg f40_r0 [] none) (.seq (.reg f40_r1 [] none) (.seq (.seq (.reg f40_r2 [] none) (.block 0 (.loop f40_l13))) (.seq (.reg f40_r14 [] none) .ret))))
theorem f40_lc:Tryz.f40.body.map lc=some f40_c.st:=by kernel_rfl
theorem f40_res:Tryz.f40.results.toList=[.tmp 6]:=by kernel_rfl
theorem f40_nt:Tryz.f40.ntmps=74:=by kernel_rfl
theorem f40_nm : (Tryz.f40.name == "runtime.NumGoroutine") = false := by kernel_rfl
def f41_r0:List LOp:=[
 ⟨some 4,.alloc 25,none⟩,
 ⟨some 5,.assign (.const (.int .i64 0)),none⟩,
 ⟨some 6,.assign (.const (.int .i64 0)),none⟩]
def f41_r1:List LOp:=[
 ⟨some 20,.move (.tmp 0),none⟩,
 ⟨some 21,.call ⟨.builtin .len,#[.tmp 20],#[9]⟩,none⟩,
 ⟨some 22,.binOp .gtr 3 (.tmp 21) (.const (.int .i64 65536)) 3,none⟩,
 ⟨some 19,.assign (.tmp 22),none⟩]
def f41_r2:List LOp:=[
 ⟨some 23,.build 25 #[],none⟩,
 ⟨none,.store 25 (.tmp 4) (.tmp 23),none⟩,
 ⟨some 5,.assign (.const (.int .i64 0)),none⟩,
 ⟨some 6,.assign (.const (.int .i64 3)),none⟩]
def f41_r3:List LOp:=[
 ⟨some 25,.move (.tmp 1),none⟩,
 ⟨some 26,.call ⟨.builtin .len,#[.tmp 25],#[22]⟩,none⟩,
 ⟨some 27,.binOp .lss 3 (.tmp 26) (.const (.int .i64 1)) 3,none⟩,
 ⟨some 28,.move (.tmp 27),none⟩,
 ⟨some 29,.move (.tmp 1),some (3,false)⟩,
 ⟨some 30,.call ⟨.builtin .len,#[.tmp 29],#[22]⟩,some (3,false)⟩,
 ⟨some 31,.binOp .gtr 3 (.tmp 30) (.const (.int .i64 100)) 3,some (3,false)⟩,
 ⟨some 32,.pick (.tmp 28) (.const (.bool true)) (.tmp 31),none⟩,
 ⟨some 33,.move (.tmp 32),none⟩,
 ⟨some 34,.move (.tmp 1),some (8,false)⟩,
 ⟨some 35,.call ⟨.value (.func 71),#[.tmp 34],#[22]⟩,some (8,false)⟩,
 ⟨some 36,.unOp .not 4 (.tmp 35),some (8,false)⟩,
 ⟨some 37,.pick (.tmp 33) (.const (.bool true)) (.tmp 36),none⟩,
 ⟨some 24,.assign (.tmp 37),none⟩]
def f41_r4:List LOp:=[
 ⟨some 38,.build 25 #[],none⟩,
 ⟨none,.store 25 (.tmp 4) (.tmp 38),none⟩,
 ⟨some 5,.assign (.const (.int .i64 0)),none⟩,
 ⟨some 6,.assign (.const (.int .i64 1)),none⟩]
def f41_r5:List LOp:=[
 ⟨some 40,.move (.tmp 0),none⟩,
 ⟨some 41,.move (.tmp 1),none⟩,
 ⟨some 42,.call ⟨.value (.func 72),#[.tmp 40,.tmp 41],#[9,22]⟩,none⟩,
 ⟨some 39,.move (.tmp 42),none⟩,
 ⟨some 43,.extract (.tmp 39) 0,none⟩,
 ⟨some 44,.extract (.tmp 39) 1,none⟩,
 ⟨some 45,.extract (.tmp 39) 2,none⟩,
 ⟨some 7,.assign (.tmp 43),none⟩,
 ⟨some 8,.assign (.tmp 44),none⟩,
 ⟨some 9,.assign (.tmp 45),none⟩]
def f41_r6:List LOp:=[
 ⟨some 46,.move (.tmp 9),none⟩,
 ⟨some 47,.binOp .neq 33 (.tmp 46) (.const (.int .i64 0)) 33,none⟩]
def f41_r7:List LOp:=[
 ⟨some 48,.build 25 #[],none⟩,
 ⟨some 49,.move (.tmp 8),none⟩,
 ⟨some 50,.move (.tmp 9),none⟩,
 ⟨none,.store 25 (.tmp 4) (.tmp 48),none⟩,
 ⟨some 5,.assign (.tmp 49),none⟩,
 ⟨some 6,.assign (.tmp 50),none⟩]
def f41_r8:List LOp:=[
 ⟨some 51,.move (.tmp 1),none⟩,
 ⟨some 52,.call ⟨.value (.func 73),#[.tmp 51],#[22]⟩,none⟩,
 ⟨some 53,.build 25 #[(0,.tmp 52)],none⟩,
 ⟨some 10,.alloc 25,none⟩,
 ⟨none,.store 25 (.tmp 10) (.tmp 53),none⟩]
def f41_r9:List LOp:=[
 ⟨some 11,.assign (.const (.slice none 0 0)),none⟩]
def f41_r10:List LOp:=[
 ⟨some 54,.move (.tmp 7),none⟩,
 ⟨some 55,.call ⟨.builtin .len,#[.tmp 54],#[115]⟩,none⟩,
 ⟨some 56,.move (.const (.int .i64 0)),none⟩]
def f41_r11:List LOp:=[
 ⟨some 57,.binOp .lss 3 (.tmp 56) (.tmp 55) 3,none⟩]
def f41_r12:List LOp:=[
 ⟨some 58,.indexAddr 115 (.tmp 54) (.tmp 56),none⟩,
 ⟨some 59,.load 120 (.tmp 58),none⟩,
 ⟨some 13,.alloc 120,none⟩,
 ⟨none,.store 120 (.tmp 13) (.tmp 59),none⟩]
def f41_r13:List LOp:=[
 ⟨some 60,.move (.tmp 11),none⟩,
 ⟨some 61,.fieldAddr 120 (.tmp 13) 1,none⟩,
 ⟨some 62,.load 9 (.tmp 61),none⟩,
 ⟨some 63,.buildSlice 22 1 #[(0,.tmp 62)],none⟩,
 ⟨some 64,.call ⟨.builtin .append,#[.tmp 60,.tmp 63],#[22,22]⟩,none⟩,
 ⟨some 11,.assign (.tmp 64),none⟩]
def f41_r14:List LOp:=[
 ⟨some 65,.binOp .add 3 (.tmp 56) (.const (.int .i64 1)) 3,none⟩,
 ⟨some 56,.move (.tmp 65),none⟩]
def f41_l15:LC:=(.seq (.reg f41_r11 [] none) (.seq (.cond (.tmp 57) .skip (.exit 1)) (.seq (.block 2 (.seq (.reg f41_r12 [] none) (.reg f41_r13 [] none))) (.reg f41_r14 [] none))))
def f41_i15 (t1 t4 t7 t10 t11 t54 t55 t56:D):List D:=[.any,t1,.any,.any,t4,.any,.any,t7,.any,.any,t10,t11,.any,.any,.any,.any,.any,.any,.any,.any,.any,.any,.any,.any,.any,.any,.any,.any,.any,.any,.any,.any,.any,.any,.any,.any,.any,.any,.any,.any,.any,.any,.any,.any,.any,.any,.any,.any,.any,.any,.any,.any,.any,.any,t54,t55,t56,.any,.any,.any,.any,.any,.any,.any,.any,.any,.any,.any,.any,.any,.any,.any,.any,.any,.any,.any,.any,.any,.any,.any,.any,.any,.any,.any,.any,.any,.any,.any,.any,.any,.any,.any,.any,.any,.any,.any,.any,.any,.any,.any,.any,.any,.any,.any,.any,.any,.any,.any,.any,.any,.any]
def f41_r16:List LOp:=[
 ⟨some 66,.move (.tmp 7),none⟩,
 ⟨some 67,.call ⟨.builtin .len,#[.tmp 66],#[115]⟩,none⟩,
 ⟨some 68,.move (.const (.int .i64 0)),none⟩]
def f41_r17:List LOp:=[
 ⟨some 69,.binOp .lss 3 (.tmp 68) (.tmp 67) 3,none⟩]
def f41_r18:List LOp:=[
 ⟨some 70,.indexAddr 115 (.tmp 66) (.tmp 68),none⟩,
 ⟨some 71,.load 120 (.tmp 70),none⟩,
 ⟨some 15,.alloc 120,none⟩,
 ⟨none,.store 120 (.tmp 15) (.tmp 71),none⟩]
def f41_r19:List LOp:=[
 ⟨some 73,.fieldAddr 120 (.tmp 15) 2,none⟩,
 ⟨some 74,.load 9 (.tmp 73),none⟩,
 ⟨some 75,.move (.tmp 1),none⟩,
 ⟨some 76,.move (.tmp 11),none⟩,
 ⟨some 77,.build 124 #[(0,.tmp 74),(2,.tmp 75),(3,.tmp 76)],none⟩,
 ⟨some 78,.box 124 (.tmp 77),none⟩,
 ⟨some 79,.call ⟨.value (.func 74),#[.tmp 78],#[122]⟩,none⟩,
 ⟨some 72,.move (.tmp 79),none⟩,
 ⟨some 80,.extract (.tmp 72) 0,none⟩,
 ⟨some 81,.extract (.tmp 72) 1,none⟩,
 ⟨some 82,.extract (.tmp 72) 2,none⟩,
 ⟨some 16,.alloc 28,none⟩,
 ⟨none,.store 28 (.tmp 16) (.tmp 80),none⟩,
 ⟨some 17,.assign (.tmp 81),none⟩,
 ⟨some 18,.assign (.tmp 82),none⟩]
def f41_r20:List LOp:=[
 ⟨some 83,.move (.tmp 18),none⟩,
 ⟨some 84,.binOp .neq 33 (.tmp 83) (.const (.int .i64 0)) 33,none⟩]
def f41_r21:List LOp:=[
 ⟨some 85,.build 25 #[],none⟩,
 ⟨some 86,.fieldAddr 120 (.tmp 15) 0,none⟩,
 ⟨some 87,.load 3 (.tmp 86),none⟩,
 ⟨some 88,.fieldAddr 120 (.tmp 15) 1,none⟩,
 ⟨some 89,.load 9 (.tmp 88),none⟩,
 ⟨some 90,.call ⟨.builtin .len,#[.tmp 89],#[9]⟩,none⟩,
 ⟨some 91,.binOp .add 3 (.tmp 87) (.tmp 90) 3,none⟩,
 ⟨some 92,.binOp .add 3 (.tmp 91) (.const (.int .i64 3)) 3,none⟩,
 ⟨some 93,.move (.tmp 17),none⟩,
 ⟨some 94,.binOp .add 3 (.tmp 92) (.tmp 93) 3,none⟩,
 ⟨some 95,.move (.tmp 18),none⟩,
 ⟨none,.store 25 (.tmp 4) (.tmp 85),none⟩,
 ⟨some 5,.assign (.tmp 94),none⟩,
 ⟨some 6,.assign (.tmp 95),none⟩]
def f41_r22:List LOp:=[
 ⟨some 96,.fieldAddr 25 (.tmp 10) 1,none⟩,
 ⟨some 97,.load 23 (.tmp 96),none⟩,
 ⟨some 98,.fieldAddr 120 (.tmp 15) 1,none⟩,
 ⟨some 99,.load 9 (.tmp 98),none⟩,
 ⟨some 100,.load 28 (.tmp 16),none⟩,
 ⟨some 101,.build 43 #[(0,.tmp 99),(1,.tmp 100)],none⟩,
 ⟨some 102,.buildSlice 23 1 #[(0,.tmp 101)],none⟩,
 ⟨some 103,.call ⟨.builtin .append,#[.tmp 97,.tmp 102],#[23,23]⟩,none⟩,
 ⟨some 104,.fieldAddr 25 (.tmp 10) 1,none⟩,
 ⟨none,.store 23 (.tmp 104) (.tmp 103),none⟩]
def f41_r23:List LOp:=[
 ⟨some 105,.binOp .add 3 (.tmp 68) (.const (.int .i64 1)) 3,none⟩,
 ⟨some 68,.move (.tmp 105),none⟩]
def f41_l24:LC:=(.seq (.reg f41_r17 [] none) (.seq (.cond (.tmp 69) .skip (.exit 3)) (.seq (.block 4 (.seq (.reg f41_r18 [] none) (.seq (.reg f41_r19 [5] none) (.seq (.seq (.reg f41_r20 [] none) (.cond (.tmp 84) (.seq (.regq f41_r21 [] 0 (.free [[],[],[1],[],[3],[4],[2,5],[6],[],[7,8],[],[0,0],[9,11,0,1,2,3,4,5,6,7,8,9,11],[10,12,0,1,2,3,4,5,6,7,8,9,10,11,12]])) .ret) .skip)) (.reg f41_r22 [] none))))) (.reg f41_r23 [] none))))
def f41_i24 (t1 t4 t10 t11 t66 t67 t68:D):List D:=[.any,t1,.any,.any,t4,.any,.any,.any,.any,.any,t10,t11,.any,.any,.any,.any,.any,.any,.any,.any,.any,.any,.any,.any,.any,.any,.any,.any,.any,.any,.any,.any,.any,.any,.any,.any,.any,.any,.any,.any,.any,.any,.any,.any,.any,.any,.any,.any,.any,.any,.any,.any,.any,.any,.any,.any,.any,.any,.any,.any,.any,.any,.any,.any,.any,.any,t66,t67,t68,.any,.any,.any,.any,.any,.any,.any,.any,.any,.any,.any,.any,.any,.any,.any,.any,.any,.any,.any,.any,.any,.any,.any,.any,.any,.any,.any,.any,.any,.any,.any,.any,.any,.any,.any,.any,.any,.any,.any,.any,.any,.any]
def f41_r25:List LOp:=[
 ⟨some 106,.load 25 (.tmp 10),none⟩,
 ⟨some 107,.call ⟨.value (.func 75),#[.tmp 106],#[25]⟩,none⟩,
 ⟨some 108,.unOp .not 4 (.tmp 107),none⟩]
def f41_r26:List LOp:=[
 ⟨some 109,.build 25 #[],none⟩,
 ⟨none,.store 25 (.tmp 4) (.tmp 109),none⟩,
 ⟨some 5,.assign (.const (.int .i64 0)),none⟩,
 ⟨some 6,.assign (.const (.int .i64 4)),none⟩]
def f41_r27:List LOp:=[
 ⟨some 110,.load 25 (.tmp 10),none⟩,
 ⟨none,.store 25 (.tmp 4) (.tmp 110),none⟩,
 ⟨some 5,.assign (.const (.int .i64 0)),none⟩,
 ⟨some 6,.assign (.const (.int .i64 0)),none⟩]
def f41_c:LC:=(.seq (.reg f41_r0 [] none) (.seq (.block 0 (.seq (.reg f41_r1 [] none) (.cond (.tmp 19) (.seq (.reg f41_r2 [] none) .ret) (.seq (.reg f41_r3 [] none) (.cond (.tmp 24) (.seq (.reg f41_r4 [] none) .ret) .skip))))) (.seq (.reg f41_r5 [] none) (.seq (.seq (.reg f41_r6 [] none) (.cond (.tmp 47) (.seq (.reg f41_r7 [] none) .ret) .skip)) (.seq (.reg f41_r8 [] none) (.seq (.reg f41_r9 [] none) (.seq (.seq (.reg f41_r10 [] none) (.block 1 (.loop f41_l15))) (.seq (.seq (.reg f41_r16 [] none) (.block 3 (.loop f41_l24))) (.seq (.seq (.reg f41_r25 [] none) (.cond (.tmp 108) (.seq (.reg f41_r26 [] none) .ret) .skip)) (.seq (.reg f41_r27 [] none) .ret))))))))))
theorem f41_lc:Tryz.f41.body.map lc=some f41_c.st:=by kernel_rfl
theorem f41_res:Tryz.f41.results.toList=[.cell 4 25,.tmp 5,.tmp 6]:=by kernel_rfl
theorem f41_nt:Tryz.f41.ntmps=111:=by kernel_rfl
theorem f41_nm : (Tryz.f41.name == "runtime.NumGoroutine") = false := by kernel_rfl
def f42_r0:List LOp:=[
 ⟨some 2,.assign (.const (.bool false)),none⟩]
def f42_r1:List LOp:=[
 ⟨some 3,.move (.tmp 0),none⟩,
 ⟨some 4,.call ⟨.value (.func 63),#[.tmp 3,.func 76],#[56,29]⟩,none⟩,
 ⟨some 5,.unOp .not 4 (.tmp 4),none⟩,
 ⟨some 2,.assign (.tmp 5),none⟩]
def f42_c:LC:=(.seq (.reg f42_r0 [] none) (.seq (.reg f42_r1 [] none) .ret))
theorem f42_lc:Tryz.f42.body.map lc=some f42_c.st:=by kernel_rfl
theorem f42_res:Tryz.f42.results.toList=[.tmp 2]:=by kernel_rfl
theorem f42_nt:Tryz.f42.ntmps=6:=by kernel_rfl
theorem f42_nm : (Tryz.f42.name == "runtime.NumGoroutine") = false := by kernel_rfl
def f43_r0:List LOp:=[
 ⟨some 1,.box 25 (.tmp 0),none⟩,
 ⟨some 2,.alloc 25,none⟩]
def f43_r1:List LOp:=[
 ⟨some 6,.fieldAddr 25 (.tmp 1) 0,none⟩,
 ⟨some 7,.load 22 (.tmp 6),none⟩,
 ⟨some 8,.call ⟨.value (.func 73),#[.tmp 7],#[22]⟩,none⟩,
 ⟨some 9,.build 25 #[(0,.tmp 8)],none⟩,
 ⟨some 3,.alloc 25,none⟩,
 ⟨none,.store 25 (.tmp 3) (.tmp 9),none⟩]
def f43_r2:List LOp:=[
 ⟨some 10,.fieldAddr 25 (.tmp 1) 1,none⟩,
 ⟨some 11,.load 23 (.tmp 10),none⟩,
 ⟨some 12,.call ⟨.builtin .len,#[.tmp 11],#[23]⟩,none⟩,
 ⟨some 13,.move (.const (.int .i64 0)),none⟩]
def f43_r3:List LOp:=[
 ⟨some 14,.binOp .lss 3 (.tmp 13) (.tmp 12) 3,none⟩]
def f43_r4:List LOp:=[
 ⟨some 15,.indexAddr 23 (.tmp 11) (.tmp 13),none⟩,
 ⟨some 16,.load 43 (.tmp 15),none⟩,
 ⟨some 5,.alloc 43,none⟩,
 ⟨none,.store 43 (.tmp 5) (.tmp 16),none⟩]
def f43_r5:List LOp:=[
 ⟨some 17,.fieldAddr 25 (.tmp 3) 1,none⟩,
 ⟨some 18,.load 23 (.tmp 17),none⟩,
 ⟨some 19,.fieldAddr 43 (.tmp 5) 0,none⟩,
 ⟨some 20,.load 9 (.tmp 19),none⟩,
 ⟨some 21,.fieldAddr 43 (.tmp 5) 1,none⟩,
 ⟨some 22,.load 28 (.tmp 21),none⟩,
 ⟨some 23,.call ⟨.value (.func 77),#[.tmp 22],#[28]⟩,none⟩,
 ⟨some 24,.build 43 #[(0,.tmp 20),(1,.tmp 23)],none⟩,
 ⟨some 25,.buildSlice 23 1 #[(0,.tmp 24)],none⟩,
 ⟨some 26,.call ⟨.builtin .append,#[.tmp 18,.tmp 25],#[23,23]⟩,none⟩,
 ⟨some 27,.fieldAddr 25 (.tmp 3) 1,none⟩,
 ⟨none,.store 23 (.tmp 27) (.tmp 26),none⟩]
def f43_r6:List LOp:=[
 ⟨some 28,.binOp .add 3 (.tmp 13) (.const (.int .i64 1)) 3,none⟩,
 ⟨some 13,.move (.tmp 28),none⟩]
def f43_l7:LC:=(.seq (.reg f43_r3 [] none) (.seq (.cond (.tmp 14) .skip (.exit 0)) (.seq (.block 1 (.seq (.reg f43_r4 [] none) (.reg f43_r5 [] (some 9)))) (.reg f43_r6 [] none))))
def f43_i7 (t2 t3 t11 t12 t13:D):List D:=[.any,.any,t2,t3,.any,.any,.any,.any,.any,.any,.any,t11,t12,t13,.any,.any,.any,.any,.any,.any,.any,.any,.any,.any,.any,.any,.any,.any,.any,.any]
def f43_r8:List LOp:=[
 ⟨some 29,.load 25 (.tmp 3),none⟩,
 ⟨none,.store 25 (.tmp 2) (.tmp 29),none⟩]
def f43_c:LC:=(.seq (.reg f43_r0 [] none) (.seq (.reg f43_r1 [] none) (.seq (.seq (.reg f43_r2 [] none) (.block 0 (.loop f43_l7))) (.seq (.reg f43_r8 [] none) .ret))))
theorem f43_lc:Tryz.f43.body.map lc=some f43_c.st:=by kernel_rfl
theorem f43_res:Tryz.f43.results.toList=[.cell 2 25]:=by kernel_rfl
theorem f43_nt:Tryz.f43.ntmps=30:=by kernel_rfl
theorem f43_nm : (Tryz.f43.name == "runtime.NumGoroutine") = false := by kernel_rfl
def f44_r0:List LOp:=[
 ⟨some 2,.box 25 (.tmp 0),none⟩,
 ⟨some 3,.box 28 (.tmp 1),none⟩,
 ⟨some 4,.assign (.const (.bool false)),none⟩]
def f44_r1:List LOp:=[
 ⟨some 5,.load 25 (.tmp 2),none⟩,
 ⟨some 6,.call ⟨.value (.func 13),#[.tmp 5],#[25]⟩,none⟩,
 ⟨some 7,.move (.tmp 6),none⟩,
 ⟨some 8,.load 28 (.tmp 3),some (2,true)⟩,
 ⟨some 9,.fieldAddr 25 (.tmp 2) 0,some (2,true)⟩,
 ⟨some 10,.load 22 (.tmp 9),some (2,true)⟩,
 ⟨some 11,.call ⟨.builtin .len,#[.tmp 10],#[22]⟩,some (2,true)⟩,
 ⟨some 12,.fieldAddr 25 (.tmp 2) 1,some (2,true)⟩,
 ⟨some 13,.load 23 (.tmp 12),some (2,true)⟩,
 ⟨some 14,.call ⟨.builtin .len,#[.tmp 13],#[23]⟩,some (2,true)⟩,
 ⟨some 15,.call ⟨.value (.func 40),#[.tmp 8,.tmp 11,.tmp 14],#[28,3,3]⟩,some (2,true)⟩,
 ⟨some 16,.pick (.tmp 7) (.tmp 15) (.const (.bool false)),none⟩,
 ⟨some 17,.move (.tmp 16),none⟩,
 ⟨some 18,.load 28 (.tmp 3),some (12,true)⟩,
 ⟨some 19,.call ⟨.value (.func 34),#[.tmp 18],#[28]⟩,some (12,true)⟩,
 ⟨some 20,.call ⟨.builtin .len,#[.tmp 19],#[26]⟩,some (12,true)⟩,
 ⟨some 21,.binOp .leq 3 (.tmp 20) (.const (.int .i64 2000)) 3,some (12,true)⟩,
 ⟨some 22,.pick (.tmp 17) (.tmp 21) (.const (.bool false)),none⟩,
 ⟨some 4,.assign (.tmp 22),none⟩]
def f44_c:LC:=(.seq (.reg f44_r0 [] none) (.seq (.reg f44_r1 [] none) .ret))
theorem f44_lc:Tryz.f44.body.map lc=some f44_c.st:=by kernel_rfl
theorem f44_res:Tryz.f44.results.toList=[.tmp 4]:=by kernel_rfl
theorem f44_nt:Tryz.f44.ntmps=23:=by kernel_rfl
theorem f44_nm : (Tryz.f44.name == "runtime.NumGoroutine") = false := by kernel_rfl
def f45_r0:List LOp:=[
 ⟨some 2,.assign (.const (.slice none 0 0)),none⟩]
def f45_r1:List LOp:=[
 ⟨some 5,.buildSlice 36 0 #[],none⟩,
 ⟨some 3,.assign (.tmp 5),none⟩]
def f45_r2:List LOp:=[
 ⟨some 6,.move (.tmp 0),none⟩,
 ⟨some 7,.call ⟨.builtin .len,#[.tmp 6],#[83]⟩,none⟩,
 ⟨some 8,.move (.const (.int .i64 0)),none⟩]
def f45_r3:List LOp:=[
 ⟨some 9,.binOp .lss 3 (.tmp 8) (.tmp 7) 3,none⟩]
def f45_r4:List LOp:=[
 ⟨some 10,.move (.tmp 8),none⟩,
 ⟨some 4,.assign (.tmp 10),none⟩]
def f45_r5:List LOp:=[
 ⟨some 11,.move (.tmp 0),none⟩,
 ⟨some 12,.move (.tmp 4),none⟩,
 ⟨some 13,.indexAddr 83 (.tmp 11) (.tmp 12),none⟩,
 ⟨some 14,.load 4 (.tmp 13),none⟩]
def f45_r6:List LOp:=[
 ⟨some 15,.move (.tmp 3),none⟩,
 ⟨some 16,.move (.tmp 4),none⟩,
 ⟨some 17,.buildSlice 36 1 #[(0,.tmp 16)],none⟩,
 ⟨some 18,.call ⟨.builtin .append,#[.tmp 15,.tmp 17],#[36,36]⟩,none⟩,
 ⟨some 3,.assign (.tmp 18),none⟩]
def f45_r7:List LOp:=[
 ⟨some 19,.binOp .add 3 (.tmp 8) (.const (.int .i64 1)) 3,none⟩,
 ⟨some 8,.move (.tmp 19),none⟩]
def f45_l8:LC:=(.seq (.reg f45_r3 [] none) (.seq (.cond (.tmp 9) .skip (.exit 0)) (.seq (.block 1 (.seq (.reg f45_r4 [] none) (.seq (.reg f45_r5 [] none) (.cond (.tmp 14) (.reg f45_r6 [] none) .skip)))) (.reg f45_r7 [] none))))
def f45_i8 (t0 t3 t7 t8:D):List D:=[t0,.any,.any,t3,.any,.any,.any,t7,t8,.any,.any,.any,.any,.any,.any,.any,.any,.any,.any,.any,.any]
def f45_r9:List LOp:=[
 ⟨some 20,.move (.tmp 3),none⟩,
 ⟨some 2,.assign (.tmp 20),none⟩]
def f45_c:LC:=(.seq (.reg f45_r0 [] none) (.seq (.reg f45_r1 [0] none) (.seq (.seq (.reg f45_r2 [] none) (.block 0 (.loop f45_l8))) (.seq (.reg f45_r9 [] none) .ret))))
theorem f45_lc:Tryz.f45.body.map lc=some f45_c.st:=by kernel_rfl
theorem f45_res:Tryz.f45.results.toList=[.tmp 2]:=by kernel_rfl
theorem f45_nt:Tryz.f45.ntmps=21:=by kernel_rfl
theorem f45_nm : (Tryz.f45.name == "runtime.NumGoroutine") = false := by kernel_rfl
def f46_r0:List LOp:=[
 ⟨some 1,.box 25 (.tmp 0),none⟩,
 ⟨some 2,.alloc 93,none⟩]
def f46_r1:List LOp:=[
 ⟨some 12,.fieldAddr 25 (.tmp 1) 1,none⟩,
 ⟨some 13,.load 23 (.tmp 12),none⟩,
 ⟨some 14,.call ⟨.builtin .len,#[.tmp 13],#[23]⟩,none⟩,
 ⟨some 3,.assign (.tmp 14),none⟩]
def f46_r2:List LOp:=[
 ⟨some 15,.move (.tmp 3),none⟩,
 ⟨some 16,.makeSlice 83 (.tmp 15) (.tmp 15),none⟩,
 ⟨some 17,.move (.tmp 3),none⟩,
 ⟨some 18,.makeSlice 83 (.tmp 17) (.tmp 17),none⟩,
 ⟨some 19,.fieldAddr 25 (.tmp 1) 0,none⟩,
 ⟨some 20,.load 22 (.tmp 19),none⟩,
 ⟨some 21,.call ⟨.builtin .len,#[.tmp 20],#[22]⟩,none⟩,
 ⟨some 22,.build 93 #[(0,.tmp 16),(1,.tmp 18),(4,.tmp 21)],none⟩,
 ⟨some 4,.alloc 93,none⟩,
 ⟨none,.store 93 (.tmp 4) (.tmp 22),none⟩]
def f46_r3:List LOp:=[
 ⟨some 5,.assign (.const (.int .i64 0)),none⟩]
def f46_r4:List LOp:=[
 ⟨some 23,.move (.tmp 5),none⟩,
 ⟨some 24,.move (.tmp 3),none⟩,
 ⟨some 25,.binOp .lss 3 (.tmp 23) (.tmp 24) 3,none⟩]
def f46_r5:List LOp:=[
 ⟨some 28,.fieldAddr 93 (.tmp 4) 2,none⟩,
 ⟨some 29,.load 91 (.tmp 28),none⟩,
 ⟨some 30,.fieldAddr 25 (.tmp 1) 0,none⟩,
 ⟨some 31,.load 22 (.tmp 30),none⟩,
 ⟨some 32,.call ⟨.builtin .len,#[.tmp 31],#[22]⟩,none⟩,
 ⟨some 33,.makeSlice 83 (.tmp 32) (.tmp 32),none⟩,
 ⟨some 34,.buildSlice 91 1 #[(0,.tmp 33)],none⟩,
 ⟨some 35,.call ⟨.builtin .append,#[.tmp 29,.tmp 34],#[91,91]⟩,none⟩,
 ⟨some 36,.fieldAddr 93 (.tmp 4) 2,none⟩,
 ⟨none,.store 91 (.tmp 36) (.tmp 35),none⟩]
def f46_r6:List LOp:=[
 ⟨some 37,.fieldAddr 93 (.tmp 4) 3,none⟩,
 ⟨some 38,.load 91 (.tmp 37),none⟩,
 ⟨some 39,.fieldAddr 25 (.tmp 1) 0,none⟩,
 ⟨some 40,.load 22 (.tmp 39),none⟩,
 ⟨some 41,.call ⟨.builtin .len,#[.tmp 40],#[22]⟩,none⟩,
 ⟨some 42,.makeSlice 83 (.tmp 41) (.tmp 41),none⟩,
 ⟨some 43,.buildSlice 91 1 #[(0,.tmp 42)],none⟩,
 ⟨some 44,.call ⟨.builtin .append,#[.tmp 38,.tmp 43],#[91,91]⟩,none⟩,
 ⟨some 45,.fieldAddr 93 (.tmp 4) 3,none⟩,
 ⟨none,.store 91 (.tmp 45) (.tmp 44),none⟩]
def f46_r7:List LOp:=[
 ⟨some 26,.move (.tmp 5),none⟩,
 ⟨some 27,.binOp .add 3 (.tmp 26) (.const (.int .i64 1)) 3,none⟩,
 ⟨some 5,.assign (.tmp 27),none⟩]
def f46_l8:LC:=(.seq (.seq (.reg f46_r4 [] none) (.cond (.tmp 25) .skip (.exit 0))) (.seq (.block 1 (.seq (.reg f46_r5 [5] (some 7)) (.reg f46_r6 [5] (some 7)))) (.reg f46_r7 [] none)))
def f46_i8 (t1 t2 t3 t4 t5:D):List D:=[.any,t1,t2,t3,t4,t5,.any,.any,.any,.any,.any,.any,.any,.any,.any,.any,.any,.any,.any,.any,.any,.any,.any,.any,.any,.any,.any,.any,.any,.any,.any,.any,.any,.any,.any,.any,.any,.any,.any,.any,.any,.any,.any,.any,.any,.any,.any,.any,.any,.any,.any,.any,.any,.any,.any,.any,.any,.any,.any,.any,.any,.any,.any,.any,.any,.any,.any,.any,.any,.any,.any,.any,.any,.any,.any,.any,.any,.any,.any,.any,.any,.any,.any,.any,.any,.any,.any,.any,.any,.any,.any,.any,.any,.any,.any,.any,.any,.any,.any,.any,.any,.any,.any,.any,.any,.any,.any,.any,.any,.any,.any,.any,.any,.any,.any,.any,.any,.any,.any,.any,.any,.any,.any,.any,.any,.any,.any,.any,.any,.any,.any,.any,.any,.any,.any,.any,.any,.any,.any]
def f46_r9:List LOp:=[
 ⟨some 6,.assign (.const (.int .i64 0)),none⟩]
def f46_r10:List LOp:=[
 ⟨some 46,.move (.tmp 6),none⟩,
 ⟨some 47,.move (.tmp 3),none⟩,
 ⟨some 48,.binOp .leq 3 (.tmp 46) (.tmp 47) 3,none⟩]
def f46_r11:List LOp:=[
 ⟨some 51,.fieldAddr 25 (.tmp 1) 1,none⟩,
 ⟨some 52,.load 23 (.tmp 51),none⟩,
 ⟨some 53,.call ⟨.builtin .len,#[.tmp 52],#[23]⟩,none⟩,
 ⟨some 54,.move (.const (.int .i64 0)),none⟩]
def f46_r12:List LOp:=[
 ⟨some 55,.binOp .lss 3 (.tmp 54) (.tmp 53) 3,none⟩]
def f46_r13:List LOp:=[
 ⟨some 56,.move (.tmp 54),none⟩,
 ⟨some 7,.assign (.tmp 56),none⟩]
def f46_r14:List LOp:=[
 ⟨some 57,.fieldAddr 93 (.tmp 4) 0,none⟩,
 ⟨some 58,.load 83 (.tmp 57),none⟩,
 ⟨some 59,.move (.tmp 7),none⟩,
 ⟨some 60,.load 93 (.tmp 4),none⟩,
 ⟨some 61,.fieldAddr 25 (.tmp 1) 1,none⟩,
 ⟨some 62,.load 23 (.tmp 61),none⟩,
 ⟨some 63,.move (.tmp 7),none⟩,
 ⟨some 64,.indexAddr 23 (.tmp 62) (.tmp 63),none⟩,
 ⟨some 65,.fieldAddr 43 (.tmp 64) 1,none⟩,
 ⟨some 66,.load 28 (.tmp 65),none⟩,
 ⟨some 67,.call ⟨.value (.func 59),#[.tmp 60,.tmp 66,.const (.bool false)],#[93,28,4]⟩,none⟩,
 ⟨some 68,.indexAddr 83 (.tmp 58) (.tmp 59),none⟩,
 ⟨none,.store 4 (.tmp 68) (.tmp 67),none⟩]
def f46_r15:List LOp:=[
 ⟨some 69,.fieldAddr 93 (.tmp 4) 1,none⟩,
 ⟨some 70,.load 83 (.tmp 69),none⟩,
 ⟨some 71,.move (.tmp 7),none⟩,
 ⟨some 72,.load 93 (.tmp 4),none⟩,
 ⟨some 73,.fieldAddr 25 (.tmp 1) 1,none⟩,
 ⟨some 74,.load 23 (.tmp 73),none⟩,
 ⟨some 75,.move (.tmp 7),none⟩,
 ⟨some 76,.indexAddr 23 (.tmp 74) (.tmp 75),none⟩,
 ⟨some 77,.fieldAddr 43 (.tmp 76) 1,none⟩,
 ⟨some 78,.load 28 (.tmp 77),none⟩,
 ⟨some 79,.call ⟨.value (.func 59),#[.tmp 72,.tmp 78,.const (.bool true)],#[93,28,4]⟩,none⟩,
 ⟨some 80,.indexAddr 83 (.tmp 70) (.tmp 71),none⟩,
 ⟨none,.store 4 (.tmp 80) (.tmp 79),none⟩]
def f46_r16:List LOp:=[
 ⟨some 81,.binOp .add 3 (.tmp 54) (.const (.int .i64 1)) 3,none⟩,
 ⟨some 54,.move (.tmp 81),none⟩]
def f46_l17:LC:=(.seq (.reg f46_r12 [] none) (.seq (.cond (.tmp 55) .skip (.exit 4)) (.seq (.block 5 (.seq (.reg f46_r13 [] none) (.seq (.reg f46_r14 [] (some 11)) (.reg f46_r15 [] (some 11))))) (.reg f46_r16 [] none))))
def f46_i17 (t1 t2 t3 t4 t6 t53 t54:D):List D:=[.any,t1,t2,t3,t4,.any,t6,.any,.any,.any,.any,.any,.any,.any,.any,.any,.any,.any,.any,.any,.any,.any,.any,.any,.any,.any,.any,.any,.any,.any,.any,.any,.any,.any,.any,.any,.any,.any,.any,.any,.any,.any,.any,.any,.any,.any,.any,.any,.any,.any,.any,.any,.any,t53,t54,.any,.any,.any,.any,.any,.any,.any,.any,.any,.any,.any,.any,.any,.any,.any,.any,.any,.any,.any,.any,.any,.any,.any,.any,.any,.any,.any,.any,.any,.any,.any,.any,.any,.any,.any,.any,.any,.any,.any,.any,.any,.any,.any,.any,.any,.any,.any,.any,.any,.any,.any,.any,.any,.any,.any,.any,.any,.any,.any,.any,.any,.any,.any,.any,.any,.any,.any,.any,.any,.any,.any,.any,.any,.any,.any,.any,.any,.any,.any,.any,.any,.any,.any,.any]
def f46_r18:List LOp:=[
 ⟨some 49,.move (.tmp 6),none⟩,
 ⟨some 50,.binOp .add 3 (.tmp 49) (.const (.int .i64 1)) 3,none⟩,
 ⟨some 6,.assign (.tmp 50),none⟩]
def f46_l19:LC:=(.seq (.seq (.reg f46_r10 [] none) (.cond (.tmp 48) .skip (.exit 2))) (.seq (.block 3 (.seq (.reg f46_r11 [] none) (.block 4 (.loop f46_l17)))) (.reg f46_r18 [] none)))
def f46_i19 (t1 t2 t3 t4 t6:D):List D:=[.any,t1,t2,t3,t4,.any,t6,.any,.any,.any,.any,.any,.any,.any,.any,.any,.any,.any,.any,.any,.any,.any,.any,.any,.any,.any,.any,.any,.any,.any,.any,.any,.any,.any,.any,.any,.any,.any,.any,.any,.any,.any,.any,.any,.any,.any,.any,.any,.any,.any,.any,.any,.any,.any,.any,.any,.any,.any,.any,.any,.any,.any,.any,.any,.any,.any,.any,.any,.any,.any,.any,.any,.any,.any,.any,.any,.any,.any,.any,.any,.any,.any,.any,.any,.any,.any,.any,.any,.any,.any,.any,.any,.any,.any,.any,.any,.any,.any,.any,.any,.any,.any,.any,.any,.any,.any,.any,.any,.any,.any,.any,.any,.any,.any,.any,.any,.any,.any,.any,.any,.any,.any,.any,.any,.any,.any,.any,.any,.any,.any,.any,.any,.any,.any,.any,.any,.any,.any,.any]
def f46_r20:List LOp:=[
 ⟨some 8,.assign (.const (.int .i64 0)),none⟩]
def f46_r21:List LOp:=[
 ⟨some 82,.move (.tmp 8),none⟩,
 ⟨some 83,.move (.tmp 3),none⟩,
 ⟨some 84,.fieldAddr 25 (.tmp 1) 0,none⟩,
 ⟨some 85,.load 22 (.tmp 84),none⟩,
 ⟨some 86,.call ⟨.builtin .len,#[.tmp 85],#[22]⟩,none⟩,
 ⟨some 87,.binOp .mul 3 (.tmp 83) (.tmp 86) 3,none⟩,
 ⟨some 88,.binOp .leq 3 (.tmp 82) (.tmp 87) 3,none⟩]
def f46_r22:List LOp:=[
 ⟨some 91,.fieldAddr 25 (.tmp 1) 1,none⟩,
 ⟨some 92,.load 23 (.tmp 91),none⟩,
 ⟨some 93,.call ⟨.builtin .len,#[.tmp 92],#[23]⟩,none⟩,
 ⟨some 94,.move (.const (.int .i64 0)),none⟩]
def f46_r23:List LOp:=[
 ⟨some 95,.binOp .lss 3 (.tmp 94) (.tmp 93) 3,none⟩]
def f46_r24:List LOp:=[
 ⟨some 96,.move (.tmp 94),none⟩,
 ⟨some 9,.assign (.tmp 96),none⟩]
def f46_r25:List LOp:=[
 ⟨some 97,.fieldAddr 93 (.tmp 4) 2,none⟩,
 ⟨some 98,.load 91 (.tmp 97),none⟩,
 ⟨some 99,.move (.tmp 9),none⟩,
 ⟨some 100,.load 93 (.tmp 4),none⟩,
 ⟨some 101,.fieldAddr 25 (.tmp 1) 1,none⟩,
 ⟨some 102,.load 23 (.tmp 101),none⟩,
 ⟨some 103,.move (.tmp 9),none⟩,
 ⟨some 104,.indexAddr 23 (.tmp 102) (.tmp 103),none⟩,
 ⟨some 105,.fieldAddr 43 (.tmp 104) 1,none⟩,
 ⟨some 106,.load 28 (.tmp 105),none⟩,
 ⟨some 107,.call ⟨.value (.func 47),#[.tmp 100,.tmp 106],#[93,28]⟩,none⟩,
 ⟨some 108,.indexAddr 91 (.tmp 98) (.tmp 99),none⟩,
 ⟨none,.store 83 (.tmp 108) (.tmp 107),none⟩]
def f46_r26:List LOp:=[
 ⟨some 109,.binOp .add 3 (.tmp 94) (.const (.int .i64 1)) 3,none⟩,
 ⟨some 94,.move (.tmp 109),none⟩]
def f46_l27:LC:=(.seq (.reg f46_r23 [] none) (.seq (.cond (.tmp 95) .skip (.exit 8)) (.seq (.block 9 (.seq (.reg f46_r24 [] none) (.reg f46_r25 [] (some 11)))) (.reg f46_r26 [] none))))
def f46_i27 (t1 t2 t3 t4 t8 t93 t94:D):List D:=[.any,t1,t2,t3,t4,.any,.any,.any,t8,.any,.any,.any,.any,.any,.any,.any,.any,.any,.any,.any,.any,.any,.any,.any,.any,.any,.any,.any,.any,.any,.any,.any,.any,.any,.any,.any,.any,.any,.any,.any,.any,.any,.any,.any,.any,.any,.any,.any,.any,.any,.any,.any,.any,.any,.any,.any,.any,.any,.any,.any,.any,.any,.any,.any,.any,.any,.any,.any,.any,.any,.any,.any,.any,.any,.any,.any,.any,.any,.any,.any,.any,.any,.any,.any,.any,.any,.any,.any,.any,.any,.any,.any,.any,t93,t94,.any,.any,.any,.any,.any,.any,.any,.any,.any,.any,.any,.any,.any,.any,.any,.any,.any,.any,.any,.any,.any,.any,.any,.any,.any,.any,.any,.any,.any,.any,.any,.any,.any,.any,.any,.any,.any,.any,.any,.any,.any,.any,.any,.any]
def f46_r28:List LOp:=[
 ⟨some 89,.move (.tmp 8),none⟩,
 ⟨some 90,.binOp .add 3 (.tmp 89) (.const (.int .i64 1)) 3,none⟩,
 ⟨some 8,.assign (.tmp 90),none⟩]
def f46_l29:LC:=(.seq (.seq (.reg f46_r21 [] none) (.cond (.tmp 88) .skip (.exit 6))) (.seq (.block 7 (.seq (.reg f46_r22 [] none) (.block 8 (.loop f46_l27)))) (.reg f46_r28 [] none)))
def f46_i29 (t1 t2 t3 t4 t8:D):List D:=[.any,t1,t2,t3,t4,.any,.any,.any,t8,.any,.any,.any,.any,.any,.any,.any,.any,.any,.any,.any,.any,.any,.any,.any,.any,.any,.any,.any,.any,.any,.any,.any,.any,.any,.any,.any,.any,.any,.any,.any,.any,.any,.any,.any,.any,.any,.any,.any,.any,.any,.any,.any,.any,.any,.any,.any,.any,.any,.any,.any,.any,.any,.any,.any,.any,.any,.any,.any,.any,.any,.any,.any,.any,.any,.any,.any,.any,.any,.any,.any,.any,.any,.any,.any,.any,.any,.any,.any,.any,.any,.any,.any,.any,.any,.any,.any,.any,.any,.any,.any,.any,.any,.any,.any,.any,.any,.any,.any,.any,.any,.any,.any,.any,.any,.any,.any,.any,.any,.any,.any,.any,.any,.any,.any,.any,.any,.any,.any,.any,.any,.any,.any,.any,.any,.any,.any,.any,.any,.any]
def f46_r30:List LOp:=[
 ⟨some 10,.assign (.const (.int .i64 0)),none⟩]
def f46_r31:List LOp:=[
 ⟨some 110,.move (.tmp 10),none⟩,
 ⟨some 111,.move (.tmp 3),none⟩,
 ⟨some 112,.fieldAddr 25 (.tmp 1) 0,none⟩,
 ⟨some 113,.load 22 (.tmp 112),none⟩,
 ⟨some 114,.call ⟨.builtin .len,#[.tmp 113],#[22]⟩,none⟩,
 ⟨some 115,.binOp .mul 3 (.tmp 111) (.tmp 114) 3,none⟩,
 ⟨some 116,.binOp .leq 3 (.tmp 110) (.tmp 115) 3,none⟩]
def f46_r32:List LOp:=[
 ⟨some 119,.fieldAddr 25 (.tmp 1) 1,none⟩,
 ⟨some 120,.load 23 (.tmp 119),none⟩,
 ⟨some 121,.call ⟨.builtin .len,#[.tmp 120],#[23]⟩,none⟩,
 ⟨some 122,.move (.const (.int .i64 0)),none⟩]
def f46_r33:List LOp:=[
 ⟨some 123,.binOp .lss 3 (.tmp 122) (.tmp 121) 3,none⟩]
def f46_r34:List LOp:=[
 ⟨some 124,.move (.tmp 122),none⟩,
 ⟨some 11,.assign (.tmp 124),none⟩]
def f46_r35:List LOp:=[
 ⟨some 125,.fieldAddr 93 (.tmp 4) 3,none⟩,
 ⟨some 126,.load 91 (.tmp 125),none⟩,
 ⟨some 127,.move (.tmp 11),none⟩,
 ⟨some 128,.load 93 (.tmp 4),none⟩,
 ⟨some 129,.fieldAddr 25 (.tmp 1) 1,none⟩,
 ⟨some 130,.load 23 (.tmp 129),none⟩,
 ⟨some 131,.move (.tmp 11),none⟩,
 ⟨some 132,.indexAddr 23 (.tmp 130) (.tmp 131),none⟩,
 ⟨some 133,.fieldAddr 43 (.tmp 132) 1,none⟩,
 ⟨some 134,.load 28 (.tmp 133),none⟩,
 ⟨some 135,.call ⟨.value (.func 52),#[.tmp 128,.tmp 134],#[93,28]⟩,none⟩,
 ⟨some 136,.indexAddr 91 (.tmp 126) (.tmp 127),none⟩,
 ⟨none,.store 83 (.tmp 136) (.tmp 135),none⟩]
def f46_r36:List LOp:=[
 ⟨some 137,.binOp .add 3 (.tmp 122) (.const (.int .i64 1)) 3,none⟩,
 ⟨some 122,.move (.tmp 137),none⟩]
def f46_l37:LC:=(.seq (.reg f46_r33 [] none) (.seq (.cond (.tmp 123) .skip (.exit 12)) (.seq (.block 13 (.seq (.reg f46_r34 [] none) (.reg f46_r35 [] (some 11)))) (.reg f46_r36 [] none))))
def f46_i37 (t1 t2 t3 t4 t10 t121 t122:D):List D:=[.any,t1,t2,t3,t4,.any,.any,.any,.any,.any,t10,.any,.any,.any,.any,.any,.any,.any,.any,.any,.any,.any,.any,.any,.any,.any,.any,.any,.any,.any,.any,.any,.any,.any,.any,.any,.any,.any,.any,.any,.any,.any,.any,.any,.any,.any,.any,.any,.any,.any,.any,.any,.any,.any,.any,.any,.any,.any,.any,.any,.any,.any,.any,.any,.any,.any,.any,.any,.any,.any,.any,.any,.any,.any,.any,.any,.any,.any,.any,.any,.any,.any,.any,.any,.any,.any,.any,.any,.any,.any,.any,.any,.any,.any,.any,.any,.any,.any,.any,.any,.any,.any,.any,.any,.any,.any,.any,.any,.any,.any,.any,.any,.any,.any,.any,.any,.any,.any,.any,.any,.any,t121,t122,.any,.any,.any,.any,.any,.any,.any,.any,.any,.any,.any,.any,.any,.any,.any,.any]
def f46_r38:List LOp:=[
 ⟨some 117,.move (.tmp 10),none⟩,
 ⟨some 118,.binOp .add 3 (.tmp 117) (.const (.int .i64 1)) 3,none⟩,
 ⟨some 10,.assign (.tmp 118),none⟩]
def f46_l39:LC:=(.seq (.seq (.reg f46_r31 [] none) (.cond (.tmp 116) .skip (.exit 10))) (.seq (.block 11 (.seq (.reg f46_r32 [] none) (.block 12 (.loop f46_l37)))) (.reg f46_r38 [] none)))
def f46_i39 (t1 t2 t3 t4 t10:D):List D:=[.any,t1,t2,t3,t4,.any,.any,.any,.any,.any,t10,.any,.any,.any,.any,.any,.any,.any,.any,.any,.any,.any,.any,.any,.any,.any,.any,.any,.any,.any,.any,.any,.any,.any,.any,.any,.any,.any,.any,.any,.any,.any,.any,.any,.any,.any,.any,.any,.any,.any,.any,.any,.any,.any,.any,.any,.any,.any,.any,.any,.any,.any,.any,.any,.any,.any,.any,.any,.any,.any,.any,.any,.any,.any,.any,.any,.any,.any,.any,.any,.any,.any,.any,.any,.any,.any,.any,.any,.any,.any,.any,.any,.any,.any,.any,.any,.any,.any,.any,.any,.any,.any,.any,.any,.any,.any,.any,.any,.any,.any,.any,.any,.any,.any,.any,.any,.any,.any,.any,.any,.any,.any,.any,.any,.any,.any,.any,.any,.any,.any,.any,.any,.any,.any,.any,.any,.any,.any,.any]
def f46_r40:List LOp:=[
 ⟨some 138,.load 93 (.tmp 4),none⟩,
 ⟨none,.store 93 (.tmp 2) (.tmp 138),none⟩]
def f46_c:LC:=(.seq (.reg f46_r0 [] none) (.seq (.reg f46_r1 [] none) (.seq (.regq f46_r2 [1,3] 0 (.free [[],[0,0],[],[2,2],[],[4],[5],[1,3,6],[],[8,7,0,1,2,3,4,5,6,7,8]])) (.seq (.seq (.reg f46_r3 [] none) (.block 0 (.loop f46_l8))) (.seq (.seq (.reg f46_r9 [] none) (.block 2 (.loop f46_l19))) (.seq (.seq (.reg f46_r20 [] none) (.block 6 (.loop f46_l29))) (.seq (.seq (.reg f46_r30 [] none) (.block 10 (.loop f46_l39))) (.seq (.reg f46_r40 [] none) .ret))))))))
theorem f46_lc:Tryz.f46.body.map lc=some f46_c.st:=by kernel_rfl
theorem f46_res:Tryz.f46.results.toList=[.cell 2 93]:=by kernel_rfl
theorem f46_nt:Tryz.f46.ntmps=139:=by kernel_rfl
theorem f46_nm : (Tryz.f46.name == "runtime.NumGoroutine") = false := by kernel_rfl
def f47_r0:List LOp:=[
 ⟨some 2,.box 93 (.tmp 0),none⟩,
 ⟨some 3,.box 28 (.tmp 1),none⟩,
 ⟨some 4,.assign (.const (.slice none 0 0)),none⟩]
def f47_r1:List LOp:=[
 ⟨some 6,.fieldAddr 93 (.tmp 2) 4,none⟩,
 ⟨some 7,.load 3 (.tmp 6),none⟩,
 ⟨some 8,.makeSlice 83 (.tmp 7) (.tmp 7),none⟩,
 ⟨some 5,.assign (.tmp 8),none⟩]
def f47_r2:List LOp:=[
 ⟨some 9,.fieldAddr 28 (.tmp 3) 0,none⟩,
 ⟨some 10,.load 5 (.tmp 9),none⟩,
 ⟨some 11,.binOp .eql 5 (.tmp 10) (.const (.int .u8 3)) 5,none⟩]
def f47_r3:List LOp:=[
 ⟨some 12,.move (.tmp 5),none⟩,
 ⟨some 13,.fieldAddr 28 (.tmp 3) 1,none⟩,
 ⟨some 14,.load 3 (.tmp 13),none⟩,
 ⟨some 15,.indexAddr 83 (.tmp 12) (.tmp 14),none⟩,
 ⟨none,.store 4 (.tmp 15) (.const (.bool true)),none⟩]
def f47_r4:List LOp:=[
 ⟨some 16,.fieldAddr 28 (.tmp 3) 0,none⟩,
 ⟨some 17,.load 5 (.tmp 16),none⟩,
 ⟨some 18,.binOp .eql 5 (.tmp 17) (.const (.int .u8 6)) 5,none⟩]
def f47_r5:List LOp:=[
 ⟨some 19,.fieldAddr 93 (.tmp 2) 2,none⟩,
 ⟨some 20,.load 91 (.tmp 19),none⟩,
 ⟨some 21,.fieldAddr 28 (.tmp 3) 1,none⟩,
 ⟨some 22,.load 3 (.tmp 21),none⟩,
 ⟨some 23,.indexAddr 91 (.tmp 20) (.tmp 22),none⟩,
 ⟨some 24,.load 83 (.tmp 23),none⟩,
 ⟨some 4,.assign (.tmp 24),none⟩]
def f47_r6:List LOp:=[
 ⟨some 25,.fieldAddr 28 (.tmp 3) 0,none⟩,
 ⟨some 26,.load 5 (.tmp 25),none⟩,
 ⟨some 27,.binOp .eql 5 (.tmp 26) (.const (.int .u8 5)) 5,none⟩,
 ⟨some 28,.move (.tmp 27),none⟩,
 ⟨some 29,.fieldAddr 28 (.tmp 3) 0,some (3,false)⟩,
 ⟨some 30,.load 5 (.tmp 29),some (3,false)⟩,
 ⟨some 31,.binOp .eql 5 (.tmp 30) (.const (.int .u8 4)) 5,some (3,false)⟩,
 ⟨some 32,.move (.tmp 31),some (3,false)⟩,
 ⟨some 33,.load 93 (.tmp 2),some (7,true)⟩,
 ⟨some 34,.fieldAddr 28 (.tmp 3) 2,some (7,true)⟩,
 ⟨some 35,.load 26 (.tmp 34),some (7,true)⟩,
 ⟨some 36,.indexAddr 26 (.tmp 35) (.const (.int .i64 1)),some (7,true)⟩,
 ⟨some 37,.load 28 (.tmp 36),some (7,true)⟩,
 ⟨some 38,.call ⟨.value (.func 59),#[.tmp 33,.tmp 37,.const (.bool false)],#[93,28,4]⟩,some (7,true)⟩,
 ⟨some 39,.pick (.tmp 32) (.tmp 38) (.const (.bool false)),some (3,false)⟩,
 ⟨some 40,.pick (.tmp 28) (.const (.bool true)) (.tmp 39),none⟩]
def f47_r7:List LOp:=[
 ⟨some 41,.move (.tmp 5),none⟩,
 ⟨some 42,.load 93 (.tmp 2),none⟩,
 ⟨some 43,.fieldAddr 28 (.tmp 3) 2,none⟩,
 ⟨some 44,.load 26 (.tmp 43),none⟩,
 ⟨some 45,.indexAddr 26 (.tmp 44) (.const (.int .i64 0)),none⟩,
 ⟨some 46,.load 28 (.tmp 45),none⟩,
 ⟨some 47,.call ⟨.value (.func 47),#[.tmp 42,.tmp 46],#[93,28]⟩,none⟩,
 ⟨some 48,.call ⟨.value (.func 78),#[.tmp 41,.tmp 47],#[83,83]⟩,none⟩,
 ⟨some 5,.assign (.tmp 48),none⟩]
def f47_r8:List LOp:=[
 ⟨some 49,.fieldAddr 28 (.tmp 3) 0,none⟩,
 ⟨some 50,.load 5 (.tmp 49),none⟩,
 ⟨some 51,.binOp .eql 5 (.tmp 50) (.const (.int .u8 5)) 5,none⟩,
 ⟨some 52,.move (.tmp 51),none⟩,
 ⟨some 53,.fieldAddr 28 (.tmp 3) 0,some (3,false)⟩,
 ⟨some 54,.load 5 (.tmp 53),some (3,false)⟩,
 ⟨some 55,.binOp .eql 5 (.tmp 54) (.const (.int .u8 4)) 5,some (3,false)⟩,
 ⟨some 56,.move (.tmp 55),some (3,false)⟩,
 ⟨some 57,.load 93 (.tmp 2),some (7,true)⟩,
 ⟨some 58,.fieldAddr 28 (.tmp 3) 2,some (7,true)⟩,
 ⟨some 59,.load 26 (.tmp 58),some (7,true)⟩,
 ⟨some 60,.indexAddr 26 (.tmp 59) (.const (.int .i64 0)),some (7,true)⟩,
 ⟨some 61,.load 28 (.tmp 60),some (7,true)⟩,
 ⟨some 62,.call ⟨.value (.func 59),#[.tmp 57,.tmp 61,.const (.bool true)],#[93,28,4]⟩,some (7,true)⟩,
 ⟨some 63,.pick (.tmp 56) (.tmp 62) (.const (.bool false)),some (3,false)⟩,
 ⟨some 64,.pick (.tmp 52) (.const (.bool true)) (.tmp 63),none⟩]
def f47_r9:List LOp:=[
 ⟨some 65,.move (.tmp 5),none⟩,
 ⟨some 66,.load 93 (.tmp 2),none⟩,
 ⟨some 67,.fieldAddr 28 (.tmp 3) 2,none⟩,
 ⟨some 68,.load 26 (.tmp 67),none⟩,
 ⟨some 69,.indexAddr 26 (.tmp 68) (.const (.int .i64 1)),none⟩,
 ⟨some 70,.load 28 (.tmp 69),none⟩,
 ⟨some 71,.call ⟨.value (.func 47),#[.tmp 66,.tmp 70],#[93,28]⟩,none⟩,
 ⟨some 72,.call ⟨.value (.func 78),#[.tmp 65,.tmp 71],#[83,83]⟩,none⟩,
 ⟨some 5,.assign (.tmp 72),none⟩]
def f47_r10:List LOp:=[
 ⟨some 73,.move (.tmp 5),none⟩,
 ⟨some 4,.assign (.tmp 73),none⟩]
def f47_c:LC:=(.seq (.reg f47_r0 [] none) (.seq (.reg f47_r1 [2] none) (.seq (.seq (.reg f47_r2 [] none) (.cond (.tmp 11) (.reg f47_r3 [] none) .skip)) (.seq (.seq (.reg f47_r4 [] none) (.cond (.tmp 18) (.seq (.reg f47_r5 [] none) .ret) .skip)) (.seq (.seq (.reg f47_r6 [] (some 13)) (.cond (.tmp 40) (.reg f47_r7 [] (some 7)) .skip)) (.seq (.seq (.reg f47_r8 [] (some 13)) (.cond (.tmp 64) (.reg f47_r9 [] (some 7)) .skip)) (.seq (.reg f47_r10 [] none) .ret)))))))
theorem f47_lc:Tryz.f47.body.map lc=some f47_c.st:=by kernel_rfl
theorem f47_res:Tryz.f47.results.toList=[.tmp 4]:=by kernel_rfl
theorem f47_nt:Tryz.f47.ntmps=74:=by kernel_rfl
theorem f47_nm : (Tryz.f47.name == "runtime.NumGoroutine") = false := by kernel_rfl
def f48_r0:List LOp:=[
 ⟨some 4,.assign (.const (.pointer none)),none⟩]
def f48_r1:List LOp:=[
 ⟨some 5,.move (.tmp 0),none⟩,
 ⟨some 6,.binOp .eql 32 (.tmp 5) (.const (.pointer none)) 32,none⟩,
 ⟨some 7,.move (.tmp 6),none⟩,
 ⟨some 8,.move (.tmp 1),some (2,false)⟩,
 ⟨some 9,.call ⟨.builtin .len,#[.tmp 8],#[26]⟩,some (2,false)⟩,
 ⟨some 10,.binOp .eql 3 (.tmp 9) (.const (.int .i64 0)) 3,some (2,false)⟩,
 ⟨some 11,.pick (.tmp 7) (.const (.bool true)) (.tmp 10),none⟩,
 ⟨some 12,.move (.tmp 11),none⟩,
 ⟨some 13,.move (.tmp 0),some (7,false)⟩,
 ⟨some 14,.nilCheck (.tmp 13),some (7,false)⟩,
 ⟨some 15,.fieldAddr 88 (.tmp 14) 0,some (7,false)⟩,
 ⟨some 16,.load 25 (.tmp 15),some (7,false)⟩,
 ⟨some 17,.move (.tmp 1),some (7,false)⟩,
 ⟨some 18,.call ⟨.value (.func 65),#[.tmp 16,.tmp 17],#[25,26]⟩,some (7,false)⟩,
 ⟨some 19,.unOp .not 4 (.tmp 18),some (7,false)⟩,
 ⟨some 20,.pick (.tmp 12) (.const (.bool true)) (.tmp 19),none⟩]
def f48_r2:List LOp:=[
 ⟨some 4,.assign (.const (.pointer none)),none⟩]
def f48_r3:List LOp:=[
 ⟨some 21,.move (.tmp 0),none⟩,
 ⟨some 22,.nilCheck (.tmp 21),none⟩,
 ⟨some 23,.fieldAddr 88 (.tmp 22) 1,none⟩,
 ⟨some 24,.move (.tmp 0),none⟩,
 ⟨some 25,.makeFunc (.func 80) #[.tmp 24] #[],none⟩,
 ⟨some 26,.call ⟨.value (.func 79),#[.tmp 23,.tmp 25],#[82,1]⟩,none⟩]
def f48_r4:List LOp:=[
 ⟨some 27,.move (.tmp 0),none⟩,
 ⟨some 28,.nilCheck (.tmp 27),none⟩,
 ⟨some 29,.fieldAddr 88 (.tmp 28) 2,none⟩,
 ⟨some 4,.assign (.tmp 29),none⟩]
def f48_c:LC:=(.seq (.reg f48_r0 [] none) (.seq (.seq (.reg f48_r1 [] none) (.cond (.tmp 20) (.seq (.reg f48_r2 [] none) .ret) .skip)) (.seq (.reg f48_r3 [] none) (.seq (.reg f48_r4 [] none) .ret))))
theorem f48_lc:Tryz.f48.body.map lc=some f48_c.st:=by kernel_rfl
theorem f48_res:Tryz.f48.results.toList=[.tmp 4]:=by kernel_rfl
theorem f48_nt:Tryz.f48.ntmps=30:=by kernel_rfl
theorem f48_nm : (Tryz.f48.name == "runtime.NumGoroutine") = false := by kernel_rfl
def f49_r0:List LOp:=[
 ⟨some 2,.assign (.const (.slice none 0 0)),none⟩]
def f49_r1:List LOp:=[
 ⟨some 3,.assign (.const (.slice none 0 0)),none⟩]
def f49_r2:List LOp:=[
 ⟨some 6,.move (.tmp 0),none⟩,
 ⟨some 7,.call ⟨.builtin .len,#[.tmp 6],#[99]⟩,none⟩,
 ⟨some 8,.move (.const (.int .i64 0)),none⟩]
def f49_r3:List LOp:=[
 ⟨some 9,.binOp .lss 3 (.tmp 8) (.tmp 7) 3,none⟩]
def f49_r4:List LOp:=[
 ⟨some 10,.move (.tmp 8),none⟩,
 ⟨some 11,.indexAddr 99 (.tmp 6) (.tmp 8),none⟩,
 ⟨some 12,.load 4 (.tmp 11),none⟩,
 ⟨some 4,.assign (.tmp 10),none⟩,
 ⟨some 5,.assign (.tmp 12),none⟩]
def f49_r5:List LOp:=[
 ⟨some 13,.move (.tmp 5),none⟩]
def f49_r6:List LOp:=[
 ⟨some 14,.move (.tmp 3),none⟩,
 ⟨some 15,.move (.tmp 4),none⟩,
 ⟨some 16,.buildSlice 36 1 #[(0,.tmp 15)],none⟩,
 ⟨some 17,.call ⟨.builtin .append,#[.tmp 14,.tmp 16],#[36,36]⟩,none⟩,
 ⟨some 3,.assign (.tmp 17),none⟩]
def f49_r7:List LOp:=[
 ⟨some 18,.binOp .add 3 (.tmp 8) (.const (.int .i64 1)) 3,none⟩,
 ⟨some 8,.move (.tmp 18),none⟩]
def f49_l8:LC:=(.seq (.reg f49_r3 [] none) (.seq (.cond (.tmp 9) .skip (.exit 0)) (.seq (.block 1 (.seq (.reg f49_r4 [] none) (.seq (.reg f49_r5 [] none) (.cond (.tmp 13) (.reg f49_r6 [] none) .skip)))) (.reg f49_r7 [] none))))
def f49_i8 (t3 t6 t7 t8:D):List D:=[.any,.any,.any,t3,.any,.any,t6,t7,t8,.any,.any,.any,.any,.any,.any,.any,.any,.any,.any,.any]
def f49_r9:List LOp:=[
 ⟨some 19,.move (.tmp 3),none⟩,
 ⟨some 2,.assign (.tmp 19),none⟩]
def f49_c:LC:=(.seq (.reg f49_r0 [] none) (.seq (.reg f49_r1 [] none) (.seq (.seq (.reg f49_r2 [] none) (.block 0 (.loop f49_l8))) (.seq (.reg f49_r9 [] none) .ret))))
theorem f49_lc:Tryz.f49.body.map lc=some f49_c.st:=by kernel_rfl
theorem f49_res:Tryz.f49.results.toList=[.tmp 2]:=by kernel_rfl
theorem f49_nt:Tryz.f49.ntmps=20:=by kernel_rfl
theorem f49_nm : (Tryz.f49.name == "runtime.NumGoroutine") = false := by kernel_rfl
def f50_r0:List LOp:=[
 ⟨some 4,.box 28 (.tmp 1),none⟩,
 ⟨some 6,.assign (.const (.slice none 0 0)),none⟩]
def f50_r1:List LOp:=[
 ⟨some 8,.move (.tmp 2),none⟩,
 ⟨some 9,.makeSlice 99 (.tmp 8) (.tmp 8),none⟩,
 ⟨some 7,.assign (.tmp 9),none⟩]
def f50_r2:List LOp:=[
 ⟨some 10,.fieldAddr 28 (.tmp 4) 0,none⟩,
 ⟨some 11,.load 5 (.tmp 10),none⟩]
def f50_r3:List LOp:=[
 ⟨some 13,.binOp .eql 5 (.tmp 11) (.const (.int .u8 3)) 5,none⟩,
 ⟨some 12,.assign (.tmp 13),none⟩]
def f50_r4:List LOp:=[
 ⟨some 14,.move (.tmp 7),none⟩,
 ⟨some 15,.fieldAddr 28 (.tmp 4) 1,none⟩,
 ⟨some 16,.load 3 (.tmp 15),none⟩,
 ⟨some 17,.indexAddr 99 (.tmp 14) (.tmp 16),none⟩,
 ⟨none,.store 4 (.tmp 17) (.const (.bool true)),none⟩]
def f50_r5:List LOp:=[
 ⟨some 19,.binOp .eql 5 (.tmp 11) (.const (.int .u8 6)) 5,none⟩,
 ⟨some 18,.assign (.tmp 19),none⟩]
def f50_r6:List LOp:=[
 ⟨some 20,.move (.tmp 7),none⟩,
 ⟨some 21,.move (.tmp 0),none⟩,
 ⟨some 22,.nilCheck (.tmp 21),none⟩,
 ⟨some 23,.fieldAddr 86 (.tmp 22) 2,none⟩,
 ⟨some 24,.load 84 (.tmp 23),none⟩,
 ⟨some 25,.fieldAddr 28 (.tmp 4) 1,none⟩,
 ⟨some 26,.load 3 (.tmp 25),none⟩,
 ⟨some 27,.indexAddr 84 (.tmp 24) (.tmp 26),none⟩,
 ⟨some 28,.load 99 (.tmp 27),none⟩,
 ⟨some 29,.call ⟨.value (.func 81),#[.tmp 20,.tmp 28],#[99,99]⟩,none⟩]
def f50_r7:List LOp:=[
 ⟨some 31,.binOp .eql 5 (.tmp 11) (.const (.int .u8 4)) 5,none⟩,
 ⟨some 30,.assign (.tmp 31),none⟩]
def f50_r8:List LOp:=[
 ⟨some 32,.move (.tmp 0),none⟩,
 ⟨some 33,.fieldAddr 28 (.tmp 4) 2,none⟩,
 ⟨some 34,.load 26 (.tmp 33),none⟩,
 ⟨some 35,.indexAddr 26 (.tmp 34) (.const (.int .i64 1)),none⟩,
 ⟨some 36,.load 28 (.tmp 35),none⟩,
 ⟨some 37,.call ⟨.value (.func 56),#[.tmp 32,.tmp 36],#[96,28]⟩,none⟩]
def f50_r9:List LOp:=[
 ⟨some 38,.move (.tmp 7),none⟩,
 ⟨some 39,.move (.tmp 0),none⟩,
 ⟨some 40,.fieldAddr 28 (.tmp 4) 2,none⟩,
 ⟨some 41,.load 26 (.tmp 40),none⟩,
 ⟨some 42,.indexAddr 26 (.tmp 41) (.const (.int .i64 0)),none⟩,
 ⟨some 43,.load 28 (.tmp 42),none⟩,
 ⟨some 44,.move (.tmp 2),none⟩,
 ⟨some 45,.call ⟨.value (.func 50),#[.tmp 39,.tmp 43,.tmp 44],#[96,28,3]⟩,none⟩,
 ⟨some 46,.call ⟨.value (.func 81),#[.tmp 38,.tmp 45],#[99,99]⟩,none⟩]
def f50_r10:List LOp:=[
 ⟨some 47,.move (.tmp 0),none⟩,
 ⟨some 48,.fieldAddr 28 (.tmp 4) 2,none⟩,
 ⟨some 49,.load 26 (.tmp 48),none⟩,
 ⟨some 50,.indexAddr 26 (.tmp 49) (.const (.int .i64 0)),none⟩,
 ⟨some 51,.load 28 (.tmp 50),none⟩,
 ⟨some 52,.call ⟨.value (.func 58),#[.tmp 47,.tmp 51],#[96,28]⟩,none⟩]
def f50_r11:List LOp:=[
 ⟨some 53,.move (.tmp 7),none⟩,
 ⟨some 54,.move (.tmp 0),none⟩,
 ⟨some 55,.fieldAddr 28 (.tmp 4) 2,none⟩,
 ⟨some 56,.load 26 (.tmp 55),none⟩,
 ⟨some 57,.indexAddr 26 (.tmp 56) (.const (.int .i64 1)),none⟩,
 ⟨some 58,.load 28 (.tmp 57),none⟩,
 ⟨some 59,.move (.tmp 2),none⟩,
 ⟨some 60,.call ⟨.value (.func 50),#[.tmp 54,.tmp 58,.tmp 59],#[96,28,3]⟩,none⟩,
 ⟨some 61,.call ⟨.value (.func 81),#[.tmp 53,.tmp 60],#[99,99]⟩,none⟩]
def f50_r12:List LOp:=[
 ⟨some 63,.binOp .eql 5 (.tmp 11) (.const (.int .u8 5)) 5,none⟩,
 ⟨some 62,.assign (.tmp 63),none⟩]
def f50_r13:List LOp:=[
 ⟨some 64,.move (.tmp 7),none⟩,
 ⟨some 65,.move (.tmp 0),none⟩,
 ⟨some 66,.fieldAddr 28 (.tmp 4) 2,none⟩,
 ⟨some 67,.load 26 (.tmp 66),none⟩,
 ⟨some 68,.indexAddr 26 (.tmp 67) (.const (.int .i64 0)),none⟩,
 ⟨some 69,.load 28 (.tmp 68),none⟩,
 ⟨some 70,.move (.tmp 2),none⟩,
 ⟨some 71,.call ⟨.value (.func 50),#[.tmp 65,.tmp 69,.tmp 70],#[96,28,3]⟩,none⟩,
 ⟨some 72,.call ⟨.value (.func 81),#[.tmp 64,.tmp 71],#[99,99]⟩,none⟩]
def f50_r14:List LOp:=[
 ⟨some 73,.move (.tmp 7),none⟩,
 ⟨some 74,.move (.tmp 0),none⟩,
 ⟨some 75,.fieldAddr 28 (.tmp 4) 2,none⟩,
 ⟨some 76,.load 26 (.tmp 75),none⟩,
 ⟨some 77,.indexAddr 26 (.tmp 76) (.const (.int .i64 1)),none⟩,
 ⟨some 78,.load 28 (.tmp 77),none⟩,
 ⟨some 79,.move (.tmp 2),none⟩,
 ⟨some 80,.call ⟨.value (.func 50),#[.tmp 74,.tmp 78,.tmp 79],#[96,28,3]⟩,none⟩,
 ⟨some 81,.call ⟨.value (.func 81),#[.tmp 73,.tmp 80],#[99,99]⟩,none⟩]
def f50_r15:List LOp:=[
 ⟨some 82,.move (.tmp 7),none⟩,
 ⟨some 6,.assign (.tmp 82),none⟩]
def f50_c:LC:=(.seq (.reg f50_r0 [] none) (.seq (.reg f50_r1 [1] none) (.seq (.seq (.reg f50_r2 [] none) (.block 0 (.seq (.reg f50_r3 [] none) (.cond (.tmp 12) (.reg f50_r4 [] none) (.seq (.reg f50_r5 [] none) (.cond (.tmp 18) (.reg f50_r6 [] (some 9)) (.seq (.reg f50_r7 [] none) (.cond (.tmp 30) (.seq (.seq (.reg f50_r8 [] none) (.cond (.tmp 37) (.reg f50_r9 [] none) .skip)) (.seq (.reg f50_r10 [] none) (.cond (.tmp 52) (.reg f50_r11 [] none) .skip))) (.seq (.reg f50_r12 [] none) (.cond (.tmp 62) (.seq (.reg f50_r13 [] none) (.reg f50_r14 [] none)) .skip)))))))))) (.seq (.reg f50_r15 [] none) .ret))))
theorem f50_lc:Tryz.f50.body.map lc=some f50_c.st:=by kernel_rfl
theorem f50_res:Tryz.f50.results.toList=[.tmp 6]:=by kernel_rfl
theorem f50_nt:Tryz.f50.ntmps=83:=by kernel_rfl
theorem f50_nm : (Tryz.f50.name == "runtime.NumGoroutine") = false := by kernel_rfl
def f51_r0:List LOp:=[
 ⟨some 4,.box 28 (.tmp 1),none⟩,
 ⟨some 6,.assign (.const (.slice none 0 0)),none⟩]
def f51_r1:List LOp:=[
 ⟨some 10,.move (.tmp 2),none⟩,
 ⟨some 11,.makeSlice 99 (.tmp 10) (.tmp 10),none⟩,
 ⟨some 7,.assign (.tmp 11),none⟩]
def f51_r2:List LOp:=[
 ⟨some 12,.fieldAddr 28 (.tmp 4) 0,none⟩,
 ⟨some 13,.load 5 (.tmp 12),none⟩]
def f51_r3:List LOp:=[
 ⟨some 15,.binOp .eql 5 (.tmp 13) (.const (.int .u8 6)) 5,none⟩,
 ⟨some 14,.assign (.tmp 15),none⟩]
def f51_r4:List LOp:=[
 ⟨some 16,.move (.tmp 7),none⟩,
 ⟨some 17,.move (.tmp 0),none⟩,
 ⟨some 18,.nilCheck (.tmp 17),none⟩,
 ⟨some 19,.fieldAddr 86 (.tmp 18) 3,none⟩,
 ⟨some 20,.load 84 (.tmp 19),none⟩,
 ⟨some 21,.fieldAddr 28 (.tmp 4) 1,none⟩,
 ⟨some 22,.load 3 (.tmp 21),none⟩,
 ⟨some 23,.indexAddr 84 (.tmp 20) (.tmp 22),none⟩,
 ⟨some 24,.load 99 (.tmp 23),none⟩,
 ⟨some 25,.call ⟨.value (.func 81),#[.tmp 16,.tmp 24],#[99,99]⟩,none⟩]
def f51_r5:List LOp:=[
 ⟨some 27,.binOp .eql 5 (.tmp 13) (.const (.int .u8 4)) 5,none⟩,
 ⟨some 26,.assign (.tmp 27),none⟩]
def f51_r6:List LOp:=[
 ⟨some 28,.move (.tmp 0),none⟩,
 ⟨some 29,.fieldAddr 28 (.tmp 4) 2,none⟩,
 ⟨some 30,.load 26 (.tmp 29),none⟩,
 ⟨some 31,.indexAddr 26 (.tmp 30) (.const (.int .i64 0)),none⟩,
 ⟨some 32,.load 28 (.tmp 31),none⟩,
 ⟨some 33,.call ⟨.value (.func 56),#[.tmp 28,.tmp 32],#[96,28]⟩,none⟩]
def f51_r7:List LOp:=[
 ⟨some 34,.move (.tmp 7),none⟩,
 ⟨some 35,.move (.tmp 0),none⟩,
 ⟨some 36,.fieldAddr 28 (.tmp 4) 2,none⟩,
 ⟨some 37,.load 26 (.tmp 36),none⟩,
 ⟨some 38,.indexAddr 26 (.tmp 37) (.const (.int .i64 1)),none⟩,
 ⟨some 39,.load 28 (.tmp 38),none⟩,
 ⟨some 40,.move (.tmp 2),none⟩,
 ⟨some 41,.call ⟨.value (.func 51),#[.tmp 35,.tmp 39,.tmp 40],#[96,28,3]⟩,none⟩,
 ⟨some 42,.call ⟨.value (.func 81),#[.tmp 34,.tmp 41],#[99,99]⟩,none⟩]
def f51_r8:List LOp:=[
 ⟨some 43,.move (.tmp 0),none⟩,
 ⟨some 44,.fieldAddr 28 (.tmp 4) 2,none⟩,
 ⟨some 45,.load 26 (.tmp 44),none⟩,
 ⟨some 46,.indexAddr 26 (.tmp 45) (.const (.int .i64 1)),none⟩,
 ⟨some 47,.load 28 (.tmp 46),none⟩,
 ⟨some 48,.call ⟨.value (.func 58),#[.tmp 43,.tmp 47],#[96,28]⟩,none⟩]
def f51_r9:List LOp:=[
 ⟨some 49,.move (.tmp 7),none⟩,
 ⟨some 50,.move (.tmp 0),none⟩,
 ⟨some 51,.fieldAddr 28 (.tmp 4) 2,none⟩,
 ⟨some 52,.load 26 (.tmp 51),none⟩,
 ⟨some 53,.indexAddr 26 (.tmp 52) (.const (.int .i64 0)),none⟩,
 ⟨some 54,.load 28 (.tmp 53),none⟩,
 ⟨some 55,.move (.tmp 2),none⟩,
 ⟨some 56,.call ⟨.value (.func 51),#[.tmp 50,.tmp 54,.tmp 55],#[96,28,3]⟩,none⟩,
 ⟨some 57,.call ⟨.value (.func 81),#[.tmp 49,.tmp 56],#[99,99]⟩,none⟩]
def f51_r10:List LOp:=[
 ⟨some 59,.binOp .eql 5 (.tmp 13) (.const (.int .u8 5)) 5,none⟩,
 ⟨some 58,.assign (.tmp 59),none⟩]
def f51_r11:List LOp:=[
 ⟨some 60,.fieldAddr 28 (.tmp 4) 2,none⟩,
 ⟨some 61,.load 26 (.tmp 60),none⟩,
 ⟨some 62,.call ⟨.builtin .len,#[.tmp 61],#[26]⟩,none⟩,
 ⟨some 63,.move (.const (.int .i64 0)),none⟩]
def f51_r12:List LOp:=[
 ⟨some 64,.binOp .lss 3 (.tmp 63) (.tmp 62) 3,none⟩]
def f51_r13:List LOp:=[
 ⟨some 65,.move (.tmp 63),none⟩,
 ⟨some 66,.indexAddr 26 (.tmp 61) (.tmp 63),none⟩,
 ⟨some 67,.load 28 (.tmp 66),none⟩,
 ⟨some 9,.alloc 28,none⟩,
 ⟨some 8,.assign (.tmp 65),none⟩,
 ⟨none,.store 28 (.tmp 9) (.tmp 67),none⟩]
def f51_r14:List LOp:=[
 ⟨some 68,.move (.tmp 7),none⟩,
 ⟨some 69,.move (.tmp 0),none⟩,
 ⟨some 70,.load 28 (.tmp 9),none⟩,
 ⟨some 71,.move (.tmp 2),none⟩,
 ⟨some 72,.call ⟨.value (.func 51),#[.tmp 69,.tmp 70,.tmp 71],#[96,28,3]⟩,none⟩,
 ⟨some 73,.call ⟨.value (.func 81),#[.tmp 68,.tmp 72],#[99,99]⟩,none⟩]
def f51_r15:List LOp:=[
 ⟨some 74,.move (.tmp 0),none⟩,
 ⟨some 75,.load 28 (.tmp 9),none⟩,
 ⟨some 76,.call ⟨.value (.func 58),#[.tmp 74,.tmp 75],#[96,28]⟩,none⟩]
def f51_r16:List LOp:=[
 ⟨some 77,.move (.tmp 7),none⟩,
 ⟨some 78,.move (.tmp 0),none⟩,
 ⟨some 79,.fieldAddr 28 (.tmp 4) 2,none⟩,
 ⟨some 80,.load 26 (.tmp 79),none⟩,
 ⟨some 81,.move (.tmp 8),none⟩,
 ⟨some 82,.binOp .sub 3 (.const (.int .i64 1)) (.tmp 81) 3,none⟩,
 ⟨some 83,.indexAddr 26 (.tmp 80) (.tmp 82),none⟩,
 ⟨some 84,.load 28 (.tmp 83),none⟩,
 ⟨some 85,.move (.tmp 2),none⟩,
 ⟨some 86,.call ⟨.value (.func 50),#[.tmp 78,.tmp 84,.tmp 85],#[96,28,3]⟩,none⟩,
 ⟨some 87,.call ⟨.value (.func 81),#[.tmp 77,.tmp 86],#[99,99]⟩,none⟩]
def f51_r17:List LOp:=[
 ⟨some 88,.binOp .add 3 (.tmp 63) (.const (.int .i64 1)) 3,none⟩,
 ⟨some 63,.move (.tmp 88),none⟩]
def f51_l18:LC:=(.seq (.reg f51_r12 [] none) (.seq (.cond (.tmp 64) .skip (.exit 1)) (.seq (.block 2 (.seq (.reg f51_r13 [] none) (.seq (.reg f51_r14 [] none) (.seq (.reg f51_r15 [] none) (.cond (.tmp 76) (.reg f51_r16 [] none) .skip))))) (.reg f51_r17 [] none))))
def f51_i18 (t0 t2 t4 t7 t61 t62 t63:D):List D:=[t0,.any,t2,.any,t4,.any,.any,t7,.any,.any,.any,.any,.any,.any,.any,.any,.any,.any,.any,.any,.any,.any,.any,.any,.any,.any,.any,.any,.any,.any,.any,.any,.any,.any,.any,.any,.any,.any,.any,.any,.any,.any,.any,.any,.any,.any,.any,.any,.any,.any,.any,.any,.any,.any,.any,.any,.any,.any,.any,.any,.any,t61,t62,t63,.any,.any,.any,.any,.any,.any,.any,.any,.any,.any,.any,.any,.any,.any,.any,.any,.any,.any,.any,.any,.any,.any,.any,.any,.any,.any]
def f51_r19:List LOp:=[
 ⟨some 89,.move (.tmp 7),none⟩,
 ⟨some 6,.assign (.tmp 89),none⟩]
def f51_c:LC:=(.seq (.reg f51_r0 [] none) (.seq (.reg f51_r1 [1] none) (.seq (.seq (.reg f51_r2 [] none) (.block 0 (.seq (.reg f51_r3 [] none) (.cond (.tmp 14) (.reg f51_r4 [] (some 9)) (.seq (.reg f51_r5 [] none) (.cond (.tmp 26) (.seq (.seq (.reg f51_r6 [] none) (.cond (.tmp 33) (.reg f51_r7 [] none) .skip)) (.seq (.reg f51_r8 [] none) (.cond (.tmp 48) (.reg f51_r9 [] none) .skip))) (.seq (.reg f51_r10 [] none) (.cond (.tmp 58) (.seq (.reg f51_r11 [] none) (.block 1 (.loop f51_l18))) .skip)))))))) (.seq (.reg f51_r19 [] none) .ret))))
theorem f51_lc:Tryz.f51.body.map lc=some f51_c.st:=by kernel_rfl
theorem f51_res:Tryz.f51.results.toList=[.tmp 6]:=by kernel_rfl
theorem f51_nt:Tryz.f51.ntmps=90:=by kernel_rfl
theorem f51_nm : (Tryz.f51.name == "runtime.NumGoroutine") = false := by kernel_rfl
attribute [go_sem] f3_r0 f3_r1 f3_r2 f3_r3 f3_r4 f3_r5 f3_r6 f3_r7 f3_r8 f3_r9 f3_l10 f3_i10 f3_r11 f3_c f11_r0 f11_r1 f11_r2 f11_r3 f11_r4 f11_r5 f11_r6 f11_r7 f11_r8 f11_l9 f11_i9 f11_r10 f11_r11 f11_r12 f11_r13 f11_r14 f11_r15 f11_l16 f11_i16 f11_r17 f11_c f12_r0 f12_r1 f12_c f13_r0 f13_r1 f13_r2 f13_r3 f13_r4 f13_r5 f13_r6 f13_r7 f13_r8 f13_r9 f13_r10 f13_l11 f13_i11 f13_r12 f13_c f14_r0 f14_r1 f14_r2 f14_r3 f14_r4 f14_c f15_r0 f15_r1 f15_r2 f15_r3 f15_c f16_r0 f16_r1 f16_r2 f16_r3 f16_c f17_r0 f17_r1 f17_r2 f17_r3 f17_r4 f17_r5 f17_r6 f17_r7 f17_r8 f17_l9 f17_i9 f17_r10 f17_c f18_r0 f18_r1 f18_r2 f18_r3 f18_r4 f18_c f19_r0 f19_r1 f19_r2 f19_r3 f19_r4 f19_c f20_r0 f20_r1 f20_r2 f20_r3 f20_c f21_r0 f21_r1 f21_c f23_r0 f23_r1 f23_r2 f23_c f34_r0 f34_r1 f34_r2 f34_r3 f34_r4 f34_r5 f34_r6 f34_l7 f34_i7 f34_r8 f34_c f37_r0 f37_r1 f37_r2 f37_r3 f37_r4 f37_r5 f37_r6 f37_r7 f37_r8 f37_l9 f37_i9 f37_r10 f37_c f38_r0 f38_r1 f38_r2 f38_r3 f38_r4 f38_r5 f38_r6 f38_l7 f38_i7 f38_r8 f38_c f39_r0 f39_r1 f39_r2 f39_r3 f39_r4 f39_r5 f39_r6 f39_l7 f39_i7 f39_r8 f39_c f40_r0 f40_r1 f40_r2 f40_r3 f40_r4 f40_r5 f40_r6 f40_r7 f40_r8 f40_r9 f40_r10 f40_r11 f40_r12 f40_l13 f40_i13 f40_r14 f40_c f41_r0 f41_r1 f41_r2 f41_r3 f41_r4 f41_r5 f41_r6 f41_r7 f41_r8 f41_r9 f41_r10 f41_r11 f41_r12 f41_r13 f41_r14 f41_l15 f41_i15 f41_r16 f41_r17 f41_r18 f41_r19 f41_r20 f41_r21 f41_r22 f41_r23 f41_l24 f41_i24 f41_r25 f41_r26 f41_r27 f41_c f42_r0 f42_r1 f42_c f43_r0 f43_r1 f43_r2 f43_r3 f43_r4 f43_r5 f43_r6 f43_l7 f43_i7 f43_r8 f43_c f44_r0 f44_r1 f44_c f45_r0 f45_r1 f45_r2 f45_r3 f45_r4 f45_r5 f45_r6 f45_r7 f45_l8 f45_i8 f45_r9 f45_c f46_r0 f46_r1 f46_r2 f46_r3 f46_r4 f46_r5 f46_r6 f46_r7 f46_l8 f46_i8 f46_r9 f46_r10 f46_r11 f46_r12 f46_r13 f46_r14 f46_r15 f46_r16 f46_l17 f46_i17 f46_r18 f46_l19 f46_i19 f46_r20 f46_r21 f46_r22 f46_r23 f46_r24 f46_r25 f46_r26 f46_l27 f46_i27 f46_r28 f46_l29 f46_i29 f46_r30 f46_r31 f46_r32 f46_r33 f46_r34 f46_r35 f46_r36 f46_l37 f46_i37 f46_r38 f46_l39 f46_i39 f46_r40 f46_c f47_r0 f47_r1 f47_r2 f47_r3 f47_r4 f47_r5 f47_r6 f47_r7 f47_r8 f47_r9 f47_r10 f47_c f48_r0 f48_r1 f48_r2 f48_r3 f48_r4 f48_c f49_r0 f49_r1 f49_r2 f49_r3 f49_r4 f49_r5 f49_r6 f49_r7 f49_l8 f49_i8 f49_r9 f49_c f50_r0 f50_r1 f50_r2 f50_r3 f50_r4 f50_r5 f50_r6 f50_r7 f50_r8 f50_r9 f50_r10 f50_r11 f50_r12 f50_r13 f50_r14 f50_r15 f50_c f51_r0 f51_r1 f51_r2 f51_r3 f51_r4 f51_r5 f51_r6 f51_r7 f51_r8 f51_r9 f51_r10 f51_r11 f51_r12 f51_r13 f51_r14 f51_r15 f51_r16 f51_r17 f51_l18 f51_i18 f51_r19 f51_c T1 T2 T3 T4 T5 T9 T20 T21 T22 T23 T25 T26 T28 T29 T30 T31 T32 T33 T36 T43 T49 T52 T56 T72 T73 T74 T76 T78 T80 T82 T83 T84 T86 T88 T91 T93 T96 T99 T106 T108 T113 T115 T120 T122 T124 T137 T146 T151 T154 T161 T165 T170 T181 T189 T193 T195 T197 T200 T204 ti1 ti2 ti3 ti4 ti5 ti9 ti20 ti21 ti22 ti23 ti25 ti26 ti28 ti29 ti30 ti31 ti32 ti33 ti36 ti43 ti49 ti52 ti56 ti72 ti73 ti74 ti76 ti78 ti80 ti82 ti83 ti84 ti86 ti88 ti91 ti93 ti96 ti99 ti106 ti108 ti113 ti115 ti120 ti122 ti124 ti137 ti146 ti151 ti154 ti161 ti165 ti170 ti181 ti189 ti193 ti195 ti197 ti200 ti204
end Go.Proofs.YtbmedfjmccnclaaGreat.W
