import Derived.Test.YtgbkambljlijmaaGreatRmU3
import Derived.Test.YtgbkambljlijmaaGreatProg
import Derived.KernelRfl
import GoSem.ClaimChange
import GoSem.ClaimJoined
import Derived.Below
set_option linter.all false
namespace Go.Abs.G
open Go.Proofs
def za5.id : FuncId := 4
@[simp] theorem za5.okf : okFunc Tryz.prog za5.id = true := by kernel_rfl
def zb2.id : FuncId := 5
@[simp] theorem zb2.okf : okFunc Tryz.prog zb2.id = true := by kernel_rfl
def zbD.id : FuncId := 7
@[simp] theorem zbD.okf : okFunc Tryz.prog zbD.id = true := by kernel_rfl
def zaj.id : FuncId := 8
@[simp] theorem zaj.okf : okFunc Tryz.prog zaj.id = true := by kernel_rfl
def zcv.id : FuncId := 9
@[simp] theorem zcv.okf : okFunc Tryz.prog zcv.id = true := by kernel_rfl
def zbd.id : FuncId := 10
@[simp] theorem zbd.okf : okFunc Tryz.prog zbd.id = true := by kernel_rfl
def zbt.id : FuncId := 11
@[simp] theorem zbt.okf : okFunc Tryz.prog zbt.id = true := by kernel_rfl
def zbC.id : FuncId := 12
@[simp] theorem zbC.okf : okFunc Tryz.prog zbC.id = true := by kernel_rfl
def zbl.id : FuncId := 13
@[simp] theorem zbl.okf : okFunc Tryz.prog zbl.id = true := by kernel_rfl
def za0.id : FuncId := 14
@[simp] theorem za0.okf : okFunc Tryz.prog za0.id = true := by kernel_rfl
def za9.id : FuncId := 15
@[simp] theorem za9.okf : okFunc Tryz.prog za9.id = true := by kernel_rfl
def zbU.id : FuncId := 16
@[simp] theorem zbU.okf : okFunc Tryz.prog zbU.id = true := by kernel_rfl
def zbW.id : FuncId := 17
@[simp] theorem zbW.okf : okFunc Tryz.prog zbW.id = true := by kernel_rfl
def zcF.id : FuncId := 18
@[simp] theorem zcF.okf : okFunc Tryz.prog zcF.id = true := by kernel_rfl
def zbP.id : FuncId := 19
@[simp] theorem zbP.okf : okFunc Tryz.prog zbP.id = true := by kernel_rfl
def zcM.id : FuncId := 20
@[simp] theorem zcM.okf : okFunc Tryz.prog zcM.id = true := by kernel_rfl
def zbT.id : FuncId := 21
@[simp] theorem zbT.okf : okFunc Tryz.prog zbT.id = true := by kernel_rfl
def zbK.id : FuncId := 22
@[simp] theorem zbK.okf : okFunc Tryz.prog zbK.id = true := by kernel_rfl
def zaH.id : FuncId := 23
@[simp] theorem zaH.okf : okFunc Tryz.prog zaH.id = true := by kernel_rfl
def zcG.id : FuncId := 24
@[simp] theorem zcG.okf : okFunc Tryz.prog zcG.id = true := by kernel_rfl
def zbq.id : FuncId := 25
@[simp] theorem zbq.okf : okFunc Tryz.prog zbq.id = true := by kernel_rfl
def zbZ.id : FuncId := 26
@[simp] theorem zbZ.okf : okFunc Tryz.prog zbZ.id = true := by kernel_rfl
def zaD.id : FuncId := 27
@[simp] theorem zaD.okf : okFunc Tryz.prog zaD.id = true := by kernel_rfl
def zaQ.id : FuncId := 28
@[simp] theorem zaQ.okf : okFunc Tryz.prog zaQ.id = true := by kernel_rfl
def zbf.id : FuncId := 29
@[simp] theorem zbf.okf : okFunc Tryz.prog zbf.id = true := by kernel_rfl
def zbm.id : FuncId := 30
@[simp] theorem zbm.okf : okFunc Tryz.prog zbm.id = true := by kernel_rfl
def zaB.id : FuncId := 32
@[simp] theorem zaB.okf : okFunc Tryz.prog zaB.id = true := by kernel_rfl
def zaO.id : FuncId := 33
@[simp] theorem zaO.okf : okFunc Tryz.prog zaO.id = true := by kernel_rfl
def zbb.id : FuncId := 34
@[simp] theorem zbb.okf : okFunc Tryz.prog zbb.id = true := by kernel_rfl
def zby.id : FuncId := 35
@[simp] theorem zby.okf : okFunc Tryz.prog zby.id = true := by kernel_rfl
def zbL.id : FuncId := 36
@[simp] theorem zbL.okf : okFunc Tryz.prog zbL.id = true := by kernel_rfl
def zaY.id : FuncId := 37
@[simp] theorem zaY.okf : okFunc Tryz.prog zaY.id = true := by kernel_rfl
def zbF.id : FuncId := 38
@[simp] theorem zbF.okf : okFunc Tryz.prog zbF.id = true := by kernel_rfl
def zbj.id : FuncId := 39
@[simp] theorem zbj.okf : okFunc Tryz.prog zbj.id = true := by kernel_rfl
def zba.id : FuncId := 40
@[simp] theorem zba.okf : okFunc Tryz.prog zba.id = true := by kernel_rfl
def zcu.id : FuncId := 41
@[simp] theorem zcu.okf : okFunc Tryz.prog zcu.id = true := by kernel_rfl
def zcB.id : FuncId := 42
@[simp] theorem zcB.okf : okFunc Tryz.prog zcB.id = true := by kernel_rfl
def zcx.id : FuncId := 43
@[simp] theorem zcx.okf : okFunc Tryz.prog zcx.id = true := by kernel_rfl
def zb9.id : FuncId := 44
@[simp] theorem zb9.okf : okFunc Tryz.prog zb9.id = true := by kernel_rfl
def za6.id : FuncId := 45
@[simp] theorem za6.okf : okFunc Tryz.prog za6.id = true := by kernel_rfl
def zbw.id : FuncId := 46
@[simp] theorem zbw.okf : okFunc Tryz.prog zbw.id = true := by kernel_rfl
def zaz.id : FuncId := 47
@[simp] theorem zaz.okf : okFunc Tryz.prog zaz.id = true := by kernel_rfl
def zaG.id : FuncId := 48
@[simp] theorem zaG.okf : okFunc Tryz.prog zaG.id = true := by kernel_rfl
def zas.id : FuncId := 49
@[simp] theorem zas.okf : okFunc Tryz.prog zas.id = true := by kernel_rfl
def zaA.id : FuncId := 50
@[simp] theorem zaA.okf : okFunc Tryz.prog zaA.id = true := by kernel_rfl
def zaw.id : FuncId := 51
@[simp] theorem zaw.okf : okFunc Tryz.prog zaw.id = true := by kernel_rfl
def zaT.id : FuncId := 52
@[simp] theorem zaT.okf : okFunc Tryz.prog zaT.id = true := by kernel_rfl
def zaL.id : FuncId := 53
@[simp] theorem zaL.okf : okFunc Tryz.prog zaL.id = true := by kernel_rfl
def zaE.id : FuncId := 54
@[simp] theorem zaE.okf : okFunc Tryz.prog zaE.id = true := by kernel_rfl
def zar.id : FuncId := 55
@[simp] theorem zar.okf : okFunc Tryz.prog zar.id = true := by kernel_rfl
def zay.id : FuncId := 56
@[simp] theorem zay.okf : okFunc Tryz.prog zay.id = true := by kernel_rfl
def zaM.id : FuncId := 57
@[simp] theorem zaM.okf : okFunc Tryz.prog zaM.id = true := by kernel_rfl
def zaF.id : FuncId := 58
@[simp] theorem zaF.okf : okFunc Tryz.prog zaF.id = true := by kernel_rfl
def zav.id : FuncId := 59
@[simp] theorem zav.okf : okFunc Tryz.prog zav.id = true := by kernel_rfl
def zaK.id : FuncId := 60
@[simp] theorem zaK.okf : okFunc Tryz.prog zaK.id = true := by kernel_rfl
def zbE.id : FuncId := 61
@[simp] theorem zbE.okf : okFunc Tryz.prog zbE.id = true := by kernel_rfl
def zbB.id : FuncId := 62
@[simp] theorem zbB.okf : okFunc Tryz.prog zbB.id = true := by kernel_rfl
def za8.id : FuncId := 63
@[simp] theorem za8.okf : okFunc Tryz.prog za8.id = true := by kernel_rfl
def zbu.id : FuncId := 64
@[simp] theorem zbu.okf : okFunc Tryz.prog zbu.id = true := by kernel_rfl
def za4.id : FuncId := 65
@[simp] theorem za4.okf : okFunc Tryz.prog za4.id = true := by kernel_rfl
def zbI.id : FuncId := 66
@[simp] theorem zbI.okf : okFunc Tryz.prog zbI.id = true := by kernel_rfl
def zbV.id : FuncId := 67
@[simp] theorem zbV.okf : okFunc Tryz.prog zbV.id = true := by kernel_rfl
def zcN.id : FuncId := 68
@[simp] theorem zcN.okf : okFunc Tryz.prog zcN.id = true := by kernel_rfl
def zct.id : FuncId := 69
@[simp] theorem zct.okf : okFunc Tryz.prog zct.id = true := by kernel_rfl
def zcq.id : FuncId := 70
@[simp] theorem zcq.okf : okFunc Tryz.prog zcq.id = true := by kernel_rfl
def zbr.id : FuncId := 71
@[simp] theorem zbr.okf : okFunc Tryz.prog zbr.id = true := by kernel_rfl
def zat.id : FuncId := 72
@[simp] theorem zat.okf : okFunc Tryz.prog zat.id = true := by kernel_rfl
def zb3.id : FuncId := 73
@[simp] theorem zb3.okf : okFunc Tryz.prog zb3.id = true := by kernel_rfl
def zcp.id : FuncId := 74
@[simp] theorem zcp.okf : okFunc Tryz.prog zcp.id = true := by kernel_rfl
def zca.id : FuncId := 75
@[simp] theorem zca.okf : okFunc Tryz.prog zca.id = true := by kernel_rfl
def zbk.id : FuncId := 76
@[simp] theorem zbk.okf : okFunc Tryz.prog zbk.id = true := by kernel_rfl
def zbA.id : FuncId := 77
@[simp] theorem zbA.okf : okFunc Tryz.prog zbA.id = true := by kernel_rfl
def zaN.id : FuncId := 78
@[simp] theorem zaN.okf : okFunc Tryz.prog zaN.id = true := by kernel_rfl
def zaC.id : FuncId := 79
@[simp] theorem zaC.okf : okFunc Tryz.prog zaC.id = true := by kernel_rfl
def zaZ.id : FuncId := 80
@[simp] theorem zaZ.okf : okFunc Tryz.prog zaZ.id = true := by kernel_rfl
def zbh.id : FuncId := 81
@[simp] theorem zbh.okf : okFunc Tryz.prog zbh.id = true := by kernel_rfl
def zbs.id : FuncId := 82
@[simp] theorem zbs.okf : okFunc Tryz.prog zbs.id = true := by kernel_rfl
def zbv.id : FuncId := 83
@[simp] theorem zbv.okf : okFunc Tryz.prog zbv.id = true := by kernel_rfl
def zbz.id : FuncId := 84
@[simp] theorem zbz.okf : okFunc Tryz.prog zbz.id = true := by kernel_rfl
def zbi.id : FuncId := 85
@[simp] theorem zbi.okf : okFunc Tryz.prog zbi.id = true := by kernel_rfl
def zbS.id : FuncId := 86
@[simp] theorem zbS.okf : okFunc Tryz.prog zbS.id = true := by kernel_rfl
def zcm.id : FuncId := 87
@[simp] theorem zcm.okf : okFunc Tryz.prog zcm.id = true := by kernel_rfl
def zcs.id : FuncId := 88
@[simp] theorem zcs.okf : okFunc Tryz.prog zcs.id = true := by kernel_rfl
def zcH.id : FuncId := 89
@[simp] theorem zcH.okf : okFunc Tryz.prog zcH.id = true := by kernel_rfl
def zcb.id : FuncId := 90
@[simp] theorem zcb.okf : okFunc Tryz.prog zcb.id = true := by kernel_rfl
def zcO.id : FuncId := 91
@[simp] theorem zcO.okf : okFunc Tryz.prog zcO.id = true := by kernel_rfl
def zaR.id : FuncId := 92
@[simp] theorem zaR.okf : okFunc Tryz.prog zaR.id = true := by kernel_rfl
def zb7.id : FuncId := 93
@[simp] theorem zb7.okf : okFunc Tryz.prog zb7.id = true := by kernel_rfl
def zcw.id : FuncId := 94
@[simp] theorem zcw.okf : okFunc Tryz.prog zcw.id = true := by kernel_rfl
def zaI.id : FuncId := 95
@[simp] theorem zaI.okf : okFunc Tryz.prog zaI.id = true := by kernel_rfl
def zcQ.id : FuncId := 96
@[simp] theorem zcQ.okf : okFunc Tryz.prog zcQ.id = true := by kernel_rfl
def zcj.id : FuncId := 97
@[simp] theorem zcj.okf : okFunc Tryz.prog zcj.id = true := by kernel_rfl
def zch.id : FuncId := 98
@[simp] theorem zch.okf : okFunc Tryz.prog zch.id = true := by kernel_rfl
def zci.id : FuncId := 99
@[simp] theorem zci.okf : okFunc Tryz.prog zci.id = true := by kernel_rfl
def zck.id : FuncId := 100
@[simp] theorem zck.okf : okFunc Tryz.prog zck.id = true := by kernel_rfl
def zbn.id : FuncId := 101
@[simp] theorem zbn.okf : okFunc Tryz.prog zbn.id = true := by kernel_rfl
def zb0.id : FuncId := 102
@[simp] theorem zb0.okf : okFunc Tryz.prog zb0.id = true := by kernel_rfl
def zcl.id : FuncId := 103
@[simp] theorem zcl.okf : okFunc Tryz.prog zcl.id = true := by kernel_rfl
def zbo.id : FuncId := 104
@[simp] theorem zbo.okf : okFunc Tryz.prog zbo.id = true := by kernel_rfl
def zcK.id : FuncId := 105
@[simp] theorem zcK.okf : okFunc Tryz.prog zcK.id = true := by kernel_rfl
def zcC.id : FuncId := 106
@[simp] theorem zcC.okf : okFunc Tryz.prog zcC.id = true := by kernel_rfl
def zcd.id : FuncId := 107
@[simp] theorem zcd.okf : okFunc Tryz.prog zcd.id = true := by kernel_rfl
def zbe.id : FuncId := 108
@[simp] theorem zbe.okf : okFunc Tryz.prog zbe.id = true := by kernel_rfl
def za7.id : FuncId := 109
@[simp] theorem za7.okf : okFunc Tryz.prog za7.id = true := by kernel_rfl
def zc5.id : FuncId := 110
@[simp] theorem zc5.okf : okFunc Tryz.prog zc5.id = true := by kernel_rfl
def zaW.id : FuncId := 111
@[simp] theorem zaW.okf : okFunc Tryz.prog zaW.id = true := by kernel_rfl
def zaJ.id : FuncId := 112
@[simp] theorem zaJ.okf : okFunc Tryz.prog zaJ.id = true := by kernel_rfl
def zbg.id : FuncId := 113
@[simp] theorem zbg.okf : okFunc Tryz.prog zbg.id = true := by kernel_rfl
def zbx.id : FuncId := 114
@[simp] theorem zbx.okf : okFunc Tryz.prog zbx.id = true := by kernel_rfl
def zbX.id : FuncId := 115
@[simp] theorem zbX.okf : okFunc Tryz.prog zbX.id = true := by kernel_rfl
def zcc.id : FuncId := 116
@[simp] theorem zcc.okf : okFunc Tryz.prog zcc.id = true := by kernel_rfl
def zau.id : FuncId := 117
@[simp] theorem zau.okf : okFunc Tryz.prog zau.id = true := by kernel_rfl
def zb4.id : FuncId := 118
@[simp] theorem zb4.okf : okFunc Tryz.prog zb4.id = true := by kernel_rfl
def zal.id : FuncId := 119
@[simp] theorem zal.okf : okFunc Tryz.prog zal.id = true := by kernel_rfl
def za1.id : FuncId := 120
@[simp] theorem za1.okf : okFunc Tryz.prog za1.id = true := by kernel_rfl
def zbQ.id : FuncId := 121
@[simp] theorem zbQ.okf : okFunc Tryz.prog zbQ.id = true := by kernel_rfl
def zbR.id : FuncId := 122
@[simp] theorem zbR.okf : okFunc Tryz.prog zbR.id = true := by kernel_rfl
def zcy.id : FuncId := 123
@[simp] theorem zcy.okf : okFunc Tryz.prog zcy.id = true := by kernel_rfl
def zaX.id : FuncId := 124
@[simp] theorem zaX.okf : okFunc Tryz.prog zaX.id = true := by kernel_rfl
def zcn.id : FuncId := 125
@[simp] theorem zcn.okf : okFunc Tryz.prog zcn.id = true := by kernel_rfl
def zaP.id : FuncId := 126
@[simp] theorem zaP.okf : okFunc Tryz.prog zaP.id = true := by kernel_rfl
def zcP.id : FuncId := 127
@[simp] theorem zcP.okf : okFunc Tryz.prog zcP.id = true := by kernel_rfl
def zao.id : FuncId := 129
@[simp] theorem zao.okf : okFunc Tryz.prog zao.id = true := by kernel_rfl
def zco.id : FuncId := 130
@[simp] theorem zco.okf : okFunc Tryz.prog zco.id = true := by kernel_rfl
def za3.id : FuncId := 131
@[simp] theorem za3.okf : okFunc Tryz.prog za3.id = true := by kernel_rfl
def zbG.id : FuncId := 132
@[simp] theorem zbG.okf : okFunc Tryz.prog zbG.id = true := by kernel_rfl
def zbM.id : FuncId := 133
@[simp] theorem zbM.okf : okFunc Tryz.prog zbM.id = true := by kernel_rfl
def zam.id : FuncId := 134
@[simp] theorem zam.okf : okFunc Tryz.prog zam.id = true := by kernel_rfl
def za5.ann : List (Nat × RA) := [(0, rk [1, 2, 3]), (1, rk [1, 2, 3, 22]), (2, rk [6]), (3, { gs := [(2, [.wk])], keep := some [1, 2, 3, 7] }), (4, rp [1, 2, 3, 7, 8, 9] [(2, [1000000]), (5, [1000000])]), (5, rk [1, 2, 3, 7, 8, 9, 10, 11]), (6, rk [1, 2, 3, 7, 8, 9, 10, 11, 12, 13]), (7, rk [1, 2, 3, 7, 8, 9, 10, 11, 12, 13, 14]), (8, rk [1, 2, 3, 7, 8, 9, 10, 11, 12, 13, 14, 43]), (9, rk [1, 2, 3, 7, 8, 9, 10, 11, 12, 13, 14]), (10, rk [1, 2, 3, 7, 8, 9, 10, 11, 12, 13, 14, 15, 16]), (11, rk [1, 2, 3, 7, 8, 9, 10, 11, 12, 13, 14, 15, 16, 17, 18]), (12, ro [1, 2, 3, 7, 8, 9, 10, 11, 12, 13, 14, 88] [0, 1, 2, 3, 4, 5, 6, 7, 8, 9, 10, 11, 12, 13, 14, 15, 16, 17, 18, 19, 21, 20, 22, 23, 24, 25, 26, 28, 27, 29, 30, 31]), (13, rk [6]), (14, ro [1, 2, 3, 7, 8, 9, 10, 11, 12, 13, 14, 104] [0, 1, 3, 4, 2, 5, 6, 7, 8, 9, 11, 12, 10, 13, 14, 15]), (15, rk [6]), (16, rp [6] [(10, [1000000])])]
def za5.b0 : C := .seq (.seq (.reg 0 [zm 0 42 14, zd 1 43 .lss 42 2, .g (.keep [1, 2, 3, 7, 8, 9, 10, 11, 12, 13, 14, 43])]) (.cond (.tmp 43) (.skip) (.exit 0))) (.seq (.block 1 (.seq (.reg 0 [zL 0 47 4 8, .o 1 (.call (some 48) zbU.id [(.tmp 47)]), zm 2 46 48, ze 3 49 46 0, ze 4 50 46 1, zm 5 15 49, zm 6 16 50, .g (.keep [1, 2, 3, 7, 8, 9, 10, 11, 12, 13, 14, 15, 16])]) (.seq (.reg 0 [zL 0 52 4 8, zm 1 53 2, .o 2 (.call (some 54) zbW.id [(.tmp 52), (.tmp 53)]), zm 3 51 54, ze 4 55 51 0, ze 5 56 51 1, zm 6 17 55, zm 7 18 56, .g (.keep [1, 2, 3, 7, 8, 9, 10, 11, 12, 13, 14, 15, 16, 17, 18])]) (.seq (.seq (.reg 0 [zm 0 57 15, zm 1 58 10, za 2 59 .neq 57 58, zm 3 60 59, ym 4 60 false 61 16, ym 5 60 false 62 11, ya 6 60 false 63 .neq 61 62, zp 7 64 60 true 63, zm 8 65 64, ym 9 65 false 66 17, ym 10 65 false 67 12, ya 11 65 false 68 .neq 66 67, zp 12 69 65 true 68, zm 13 70 69, ym 14 70 false 71 18, ym 15 70 false 72 13, yy 16 70 false 73 true 71 72, zp 17 74 70 true 73, zm 18 75 74, yL 19 75 false 76 4 8, yL 21 75 false 78 4 3, .gd 20 75 false (some 77) (.call (some 77) zcF.id [(.tmp 76)]), .gd 22 75 false (some 79) (.call (some 79) zbP.id [(.tmp 78)]), ya 23 75 false 80 .neq 77 79, zp 24 81 75 true 80, zm 25 82 81, yL 26 82 false 83 4 8, yL 28 82 false 85 4 3, .gd 27 82 false (some 84) (.call (some 84) zcM.id [(.tmp 83)]), .gd 29 82 false (some 86) (.call (some 86) zbT.id [(.tmp 85)]), ya 30 82 false 87 .neq 84 86, zp 31 88 82 true 87, .g (.keep [1, 2, 3, 7, 8, 9, 10, 11, 12, 13, 14, 88])]) (.cond (.tmp 88) (.seq (.reg 0 [zb 0 6 false, .g (.keep [6])]) (.ret)) (.skip))) (.seq (.reg 0 [zL 0 89 4 8, zm 1 90 9, zL 3 92 4 3, zm 4 93 1, .o 2 (.call (some 91) zbK.id [(.tmp 89), (.tmp 90)]), .o 5 (.call (some 94) zaH.id [(.tmp 92), (.tmp 93)]), zy 6 95 true 91 94, zm 7 96 95, yL 8 96 false 97 4 8, ym 9 96 false 98 9, yL 11 96 false 100 4 3, ym 12 96 false 101 1, .gd 10 96 false (some 99) (.call (some 99) zcG.id [(.tmp 97), (.tmp 98)]), .gd 13 96 false (some 102) (.call (some 102) zbq.id [(.tmp 100), (.tmp 101)]), ya 14 96 false 103 .neq 99 102, zp 15 104 96 true 103, .g (.keep [1, 2, 3, 7, 8, 9, 10, 11, 12, 13, 14, 104])]) (.cond (.tmp 104) (.seq (.reg 0 [zb 0 6 false, .g (.keep [6])]) (.ret)) (.skip))))))) (.reg 0 [zm 0 44 14, zd 1 45 .add 44 1, zm 2 14 45, .g (.keep [1, 2, 3, 7, 8, 9, 10, 11, 12, 13, 14])]))
def za5.ir : C := .seq (.reg 1 [.o 0 (.box (some 3) 0 4 (.tmp 0)), zb 1 6 false, .g (.keep [1, 2, 3])]) (.seq (.seq (.reg 0 [zL 0 19 4 3, zm 1 20 1, .o 2 (.call (some 21) zb2.id [(.tmp 19), (.tmp 20)]), zq 3 22 21, .g (.keep [1, 2, 3, 22])]) (.cond (.tmp 22) (.seq (.reg 0 [zb 0 6 true, .g (.keep [6])]) (.ret)) (.skip))) (.seq (.reg 1 [.o 0 (.lt (some 23) (.build [.a (.slice none 0 0), .a (.slice none 0 0), .a (.slice none 0 0), .a (.slice none 0 0), .a (.slice none 0 0), .a (.slice none 0 0), .a (.slice none 0 0), .a (.slice none 0 0), .a (.slice none 0 0), .a (.slice none 0 0), .a (.slice none 0 0), .a (.slice none 0 0), .a (.slice none 0 0), .a (.slice none 0 0), .a (.slice none 0 0), .a (.slice none 0 0), .a (.slice none 0 0), .a (.slice none 0 0), .a (.slice none 0 0), .a (.slice none 0 0), .a (.slice none 0 0), .a (.slice none 0 0), .a (.slice none 0 0), .a (.slice none 0 0), .a (.slice none 0 0), .a (.slice none 0 0), .a (.slice none 0 0), .a (.slice none 0 0)] [])), .o 1 (.box (some 24) 0 28 (.tmp 23)), .g (.wk), zm 2 7 24, .g (.keep [1, 2, 3, 7])]) (.seq (.reg 1 [zm 0 25 7, zL 1 26 4 3, .o 2 (.callm (some 27) (.func zbl.id) [(.tmp 25), (.tmp 26)]), zm 3 28 7, zm 4 29 1, .o 5 (.callm (some 30) (.func zbD.id) [(.tmp 28), (.tmp 29)]), .o 6 (.alloc (some 8) 0 4 [.a (.slice none 0 0), .a (.slice none 0 0), .a (.bool false), .a (.slice none 0 0)]), .o 7 (.store [] 4 (.tmp 8) (.tmp 27)), zm 8 9 30, .g (.keep [1, 2, 3, 7, 8, 9])]) (.seq (.reg 0 [zL 0 32 4 3, .o 1 (.call (some 33) za0.id [(.tmp 32)]), zm 2 31 33, ze 3 34 31 0, ze 4 35 31 1, zm 5 10 34, zm 6 11 35, .g (.keep [1, 2, 3, 7, 8, 9, 10, 11])]) (.seq (.reg 0 [zL 0 37 4 3, zm 1 38 2, .o 2 (.call (some 39) za9.id [(.tmp 37), (.tmp 38)]), zm 3 36 39, ze 4 40 36 0, ze 5 41 36 1, zm 6 12 40, zm 7 13 41, .g (.keep [1, 2, 3, 7, 8, 9, 10, 11, 12, 13])]) (.seq (.seq (.reg 0 [zk 0 14 0, .g (.keep [1, 2, 3, 7, 8, 9, 10, 11, 12, 13, 14])]) (.block 0 (.loop za5.b0))) (.seq (.reg 0 [zL 0 105 4 8, zL 1 106 4 3, .o 2 (.call (some 107) zbt.id [(.tmp 105), (.tmp 106)]), zm 3 108 107, ym 4 108 true 109 9, ym 5 108 true 110 1, .gd 6 108 true (some 111) (.call (some 111) zbd.id [(.tmp 109), (.tmp 110)]), zr 7 112 108 111 false, zm 8 113 112, ym 9 113 true 114 7, .gd 10 113 true (some 115) (.callm (some 115) (.func zbC.id) [(.tmp 114)]), zr 11 116 113 115 false, zm 12 6 116, .g (.keep [6])]) (.ret))))))))
def za5.rs : List Rs := [.sl 6]
theorem za5.ok : isFn Tryz.prog za5.id 117 za5.ann za5.ir za5.rs := ⟨Tryz.f4, _, Tryz.func4, rfl, rfl, by kernel_rfl, by kernel_rfl⟩
def zb2.ann : List (Nat × RA) := [(0, rk [1, 2]), (1, rp [1, 2, 5] [(0, [1000000])]), (2, rp [1, 5] [(2, [1000000])]), (3, rp [5] [(3, [1000000])]), (4, rp [4] [(1, [1000000])])]
def zb2.ir : C := .seq (.reg 1 [.o 0 (.box (some 2) 0 4 (.tmp 0)), zb 1 4 false, .g (.keep [1, 2])]) (.seq (.reg 0 [.o 0 (.callm (some 6) (.func zbZ.id) [(.const (.int .i64 20000))]), zm 1 5 6, .g (.keep [1, 2, 5])]) (.seq (.reg 0 [zm 0 7 5, zL 1 8 4 2, .o 2 (.callm (some 9) (.func zaD.id) [(.tmp 7), (.tmp 8)]), .g (.keep [1, 5])]) (.seq (.reg 0 [zm 0 10 5, zm 1 11 1, zn 2 12 11, .o 3 (.callm (some 13) (.func zaQ.id) [(.tmp 10), (.tmp 12)]), .g (.keep [5])]) (.seq (.reg 0 [zm 0 14 5, .o 1 (.callm (some 15) (.func zbf.id) [(.tmp 14)]), zm 2 4 15, .g (.keep [4])]) (.ret)))))
def zb2.rs : List Rs := [.sl 4]
theorem zb2.ok : isFn Tryz.prog zb2.id 16 zb2.ann zb2.ir zb2.rs := ⟨Tryz.f5, _, Tryz.func5, rfl, rfl, by kernel_rfl, by kernel_rfl⟩
def zbD.ann : List (Nat × RA) := [(0, rk [0, 1]), (1, rp [4] [(2, [1000000])])]
def zbD.ir : C := .seq (.reg 0 [.o 0 (.lt (some 4) (.mov (.const (.slice none 0 0)))), .g (.keep [0, 1])]) (.seq (.reg 0 [zm 0 5 0, zm 1 6 1, .o 2 (.callm (some 7) (.func zaB.id) [(.tmp 5), (.tmp 6), (.const (.int .i64 40))]), zm 3 4 7, .g (.keep [4])]) (.ret))
def zbD.rs : List Rs := [.sl 4]
theorem zbD.ok : isFn Tryz.prog zbD.id 8 zbD.ann zbD.ir zbD.rs := ⟨Tryz.f7, _, Tryz.func7, rfl, rfl, by kernel_rfl, by kernel_rfl⟩
def zaj.ann : List (Nat × RA) := [(0, rk [1, 2]), (1, rk [1, 2, 16]), (2, rk [4]), (3, rk [1, 2, 18]), (4, rk [1, 2, 18, 19]), (5, ro [4] [0, 1, 2, 3, 4, 6, 7, 5, 8, 9]), (6, rk [1, 2, 18, 30]), (7, ro [4] [0, 1, 2, 3, 4, 5, 6, 7, 8, 9, 10, 11, 12, 13, 14]), (8, rk [1, 2, 18, 46]), (9, rk [4]), (10, rk [1, 2, 18, 52]), (11, rk [1, 2, 5]), (12, ro [4] [0, 1, 2, 3, 4, 5, 6, 7, 8, 9, 10, 11, 12, 13, 14, 15, 16, 17, 18, 19, 20, 21, 22]), (13, rk [1, 2, 18, 81]), (14, ro [4] [0, 1, 2, 3, 4, 5, 6, 7, 8, 9]), (15, rk [1, 2, 18, 92]), (16, ro [4] [0, 1, 2, 3, 4, 5, 6, 7, 8, 9]), (17, rk [1, 2, 18, 103]), (18, rk [4]), (19, rk [1, 2, 108]), (20, rk [4]), (21, rk [1, 2, 6]), (22, ro [6, 124] [0, 1, 2, 4, 5, 3, 6]), (23, rk [4]), (24, rk [4])]
def zaj.ir : C := .seq (.reg 1 [.o 0 (.box (some 2) 0 10 (.tmp 0)), zb 1 4 false, .g (.keep [1, 2])]) (.seq (.seq (.reg 0 [zL 0 7 10 2, zm 1 8 1, zn 2 9 8, .o 3 (.call (some 10) zaO.id [(.tmp 7), (.tmp 9)]), zd 4 11 .neq 10 0, zm 5 12 11, ym 6 12 false 13 1, .gd 7 12 false (some 14) (.call (some 14) zbb.id [(.tmp 13)]), yq 8 12 false 15 14, zp 9 16 12 true 15, .g (.keep [1, 2, 16])]) (.cond (.tmp 16) (.seq (.reg 0 [zb 0 4 false, .g (.keep [4])]) (.ret)) (.skip))) (.seq (.seq (.reg 0 [zf 0 17 2 0, zl 1 18 1 17, .g (.keep [1, 2, 18])]) (.block 0 (.seq (.reg 0 [zd 0 20 .eql 18 1, zm 1 19 20, .g (.keep [1, 2, 18, 19])]) (.cond (.tmp 19) (.seq (.reg 0 [zf 0 21 2 1, zl 1 22 1 21, zf 2 23 2 2, zl 3 24 1 23, zm 4 25 1, zf 6 27 2 3, zl 7 28 1 27, .o 5 (.call (some 26) zbL.id [(.tmp 24), (.tmp 25)]), .o 8 (.call (some 29) zby.id [(.tmp 22), (.tmp 26), (.tmp 28)]), zm 9 4 29, .g (.keep [4])]) (.ret)) (.seq (.reg 0 [zd 0 31 .eql 18 2, zm 1 30 31, .g (.keep [1, 2, 18, 30])]) (.cond (.tmp 30) (.seq (.reg 0 [zm 0 32 1, zf 1 33 2 5, zl 2 34 1 33, zx 3 35 1 32 34, zl 4 36 1 35, zm 5 37 1, zf 6 38 2 6, zl 7 39 1 38, zx 8 40 1 37 39, zl 9 41 1 40, zf 10 42 2 3, zl 11 43 1 42, za 12 44 .add 41 43, za 13 45 .neq 36 44, zm 14 4 45, .g (.keep [4])]) (.ret)) (.seq (.reg 0 [zd 0 47 .eql 18 3, zm 1 46 47, .g (.keep [1, 2, 18, 46])]) (.cond (.tmp 46) (.seq (.reg 0 [zf 0 48 2 7, zl 1 49 1 48, zm 2 50 1, .o 3 (.call (some 51) zaY.id [(.tmp 49), (.tmp 50)]), zm 4 4 51, .g (.keep [4])]) (.ret)) (.seq (.reg 0 [zd 0 53 .eql 18 4, zm 1 52 53, .g (.keep [1, 2, 18, 52])]) (.cond (.tmp 52) (.seq (.reg 0 [zm 0 54 1, zf 1 55 2 5, zl 2 56 1 55, zx 3 57 1 54 56, zl 4 58 1 57, zm 5 5 58, .g (.keep [1, 2, 5])]) (.seq (.reg 0 [zm 0 59 5, zd 1 60 .geq 59 0, zm 2 61 60, ym 3 61 true 62 5, yf 4 61 true 63 2 8, yl 5 61 true 64 1 63, yn 6 61 true 65 64, ya 7 61 true 66 .lss 62 65, zr 8 67 61 66 false, zm 9 68 67, yf 10 68 true 69 2 8, yl 11 68 true 70 1 69, ym 12 68 true 71 5, yx 13 68 true 72 1 70 71, yl 14 68 true 73 1 72, ym 15 68 true 74 1, yf 16 68 true 75 2 6, yl 17 68 true 76 1 75, yx 18 68 true 77 1 74 76, yl 19 68 true 78 1 77, ya 20 68 true 79 .eql 73 78, zr 21 80 68 79 false, zm 22 4 80, .g (.keep [4])]) (.ret))) (.seq (.reg 0 [zd 0 82 .eql 18 5, zm 1 81 82, .g (.keep [1, 2, 18, 81])]) (.cond (.tmp 81) (.seq (.reg 0 [zm 0 83 1, zf 1 84 2 6, zl 2 85 1 84, zx 3 86 1 83 85, zl 4 87 1 86, zf 5 88 2 7, zl 6 89 1 88, zm 7 90 1, .o 8 (.call (some 91) zbF.id [(.tmp 87), (.tmp 89), (.tmp 90), (.const (.int .i64 1))]), zm 9 4 91, .g (.keep [4])]) (.ret)) (.seq (.reg 0 [zd 0 93 .eql 18 6, zm 1 92 93, .g (.keep [1, 2, 18, 92])]) (.cond (.tmp 92) (.seq (.reg 0 [zm 0 94 1, zf 1 95 2 6, zl 2 96 1 95, zx 3 97 1 94 96, zl 4 98 1 97, zf 5 99 2 7, zl 6 100 1 99, zm 7 101 1, .o 8 (.call (some 102) zbF.id [(.tmp 98), (.tmp 100), (.tmp 101), (.const (.int .i64 (-1)))]), zm 9 4 102, .g (.keep [4])]) (.ret)) (.seq (.reg 0 [zd 0 104 .eql 18 8, zm 1 103 104, .g (.keep [1, 2, 18, 103])]) (.cond (.tmp 103) (.seq (.reg 0 [zL 0 105 10 2, zm 1 106 1, .o 2 (.call (some 107) zbj.id [(.tmp 105), (.tmp 106)]), zm 3 4 107, .g (.keep [4])]) (.ret)) (.seq (.reg 0 [zd 0 109 .eql 18 9, zm 1 108 109, .g (.keep [1, 2, 108])]) (.cond (.tmp 108) (.seq (.reg 0 [zL 0 110 10 2, zm 1 111 1, .o 2 (.call (some 112) zba.id [(.tmp 110), (.tmp 111)]), zm 3 4 112, .g (.keep [4])]) (.ret)) (.skip))))))))))))))))))) (.seq (.reg 0 [zm 0 113 1, zf 1 114 2 5, zl 2 115 1 114, zx 3 116 1 113 115, zl 4 117 1 116, zm 5 6 117, .g (.keep [1, 2, 6])]) (.seq (.seq (.reg 0 [zf 0 118 2 2, zl 1 119 1 118, zm 2 120 1, zf 4 122 2 3, zl 5 123 1 122, .o 3 (.call (some 121) zbL.id [(.tmp 119), (.tmp 120)]), za 6 124 .leq 121 123, .g (.keep [6, 124])]) (.cond (.tmp 124) (.seq (.reg 0 [zm 0 125 6, zd 1 126 .eql 125 1, zm 2 4 126, .g (.keep [4])]) (.ret)) (.skip))) (.seq (.reg 0 [zm 0 127 6, zd 1 128 .eql 127 0, zm 2 4 128, .g (.keep [4])]) (.ret))))))
def zaj.rs : List Rs := [.sl 4]
theorem zaj.ok : isFn Tryz.prog zaj.id 129 zaj.ann zaj.ir zaj.rs := ⟨Tryz.f8, _, Tryz.func8, rfl, rfl, by kernel_rfl, by kernel_rfl⟩
def zcv.ann : List (Nat × RA) := [(0, rk [2, 3]), (1, rk [2, 3, 14]), (2, rk [4]), (3, rq [4] [1, 2, 5, 6, 0, 3, 4, 7, 8] [(7, [1000001])])]
def zcv.ir : C := .seq (.reg 2 [.o 0 (.box (some 2) 0 10 (.tmp 0)), .o 1 (.box (some 3) 1 1 (.tmp 1)), zb 2 4 false, .g (.keep [2, 3])]) (.seq (.seq (.reg 0 [zL 0 5 10 2, zl 1 6 1 3, zn 2 7 6, .o 3 (.call (some 8) zcu.id [(.tmp 5), (.tmp 7)]), zd 4 9 .neq 8 0, zm 5 10 9, yl 6 10 false 11 1 3, .gd 7 10 false (some 12) (.call (some 12) zcB.id [(.tmp 11)]), yq 8 10 false 13 12, zp 9 14 10 true 13, .g (.keep [2, 3, 14])]) (.cond (.tmp 14) (.seq (.reg 0 [zb 0 4 false, .g (.keep [4])]) (.ret)) (.skip))) (.seq (.reg 0 [zf 1 16 2 0, zl 2 17 1 16, zL 5 20 10 2, .o 6 (.lt (some 21) (.mkfn (.func zb9.id) [] [(.tmp 3)])), .o 0 (.call (some 15) zcx.id []), .o 3 (.lt (some 18) (.lkp false .i64 (.agg [.a (.bool false), .a (.bool false), .a (.bool false), .a (.bool false), .a (.bool false), .a (.bool false), .a (.bool false), .a (.bool false), .a (.bool false), .a (.nilFunc)]) (.tmp 15) (.tmp 17))), .o 4 (.lt (some 19) (.fld false 1 9 (.tmp 18))), .o 7 (.callb (some 22) (.tmp 19) [(.tmp 20), (.tmp 21)]), zm 8 4 22, .g (.keep [4])]) (.ret)))
def zcv.rs : List Rs := [.sl 4]
theorem zcv.ok : isFn Tryz.prog zcv.id 23 zcv.ann zcv.ir zcv.rs := ⟨Tryz.f9, _, Tryz.func9, rfl, rfl, by kernel_rfl, by kernel_rfl⟩
def zbd.ann : List (Nat × RA) := [(0, rk [0, 1]), (1, rk [0, 1, 10]), (2, rk [4]), (3, rk [0, 1, 5]), (4, rk [0, 1, 5, 14]), (5, rk [0, 1, 5]), (6, ro [0, 1, 5, 25] [0, 1, 2, 3, 4, 5, 6, 7, 8]), (7, rk [4]), (8, rk [4])]
def zbd.b0 : C := .seq (.seq (.reg 0 [zm 0 11 5, zm 1 12 0, zn 2 13 12, za 3 14 .lss 11 13, .g (.keep [0, 1, 5, 14])]) (.cond (.tmp 14) (.skip) (.exit 0))) (.seq (.block 1 (.seq (.reg 0 [zm 0 17 0, zm 1 18 5, zx 2 19 1 17 18, zl 3 20 1 19, zm 4 21 1, zm 5 22 5, zx 6 23 1 21 22, zl 7 24 1 23, za 8 25 .neq 20 24, .g (.keep [0, 1, 5, 25])]) (.cond (.tmp 25) (.seq (.reg 0 [zb 0 4 false, .g (.keep [4])]) (.ret)) (.skip)))) (.reg 0 [zm 0 15 5, zd 1 16 .add 15 1, zm 2 5 16, .g (.keep [0, 1, 5])]))
def zbd.ir : C := .seq (.reg 0 [zb 0 4 false, .g (.keep [0, 1])]) (.seq (.seq (.reg 0 [zm 0 6 0, zn 1 7 6, zm 2 8 1, zn 3 9 8, za 4 10 .neq 7 9, .g (.keep [0, 1, 10])]) (.cond (.tmp 10) (.seq (.reg 0 [zb 0 4 false, .g (.keep [4])]) (.ret)) (.skip))) (.seq (.seq (.reg 0 [zk 0 5 0, .g (.keep [0, 1, 5])]) (.block 0 (.loop zbd.b0))) (.seq (.reg 0 [zb 0 4 true, .g (.keep [4])]) (.ret))))
def zbd.rs : List Rs := [.sl 4]
theorem zbd.ok : isFn Tryz.prog zbd.id 26 zbd.ann zbd.ir zbd.rs := ⟨Tryz.f10, _, Tryz.func10, rfl, rfl, by kernel_rfl, by kernel_rfl⟩
def zbt.ann : List (Nat × RA) := [(0, rk [2, 3]), (1, rk [2, 3, 37]), (2, rk [4]), (3, rk [2, 3, 5]), (4, rk [2, 3, 5, 42]), (5, rk [2, 3, 5]), (6, ro [2, 3, 5, 55] [0, 1, 2, 3, 4, 5, 6, 7, 8, 9, 10]), (7, rk [4]), (8, rk [2, 3, 6]), (9, rk [2, 3, 6, 60]), (10, rk [2, 3, 6]), (11, ro [2, 3, 6, 74] [0, 1, 2, 3, 4, 5, 6, 7, 8, 9, 10, 11]), (12, rk [4]), (13, rk [4])]
def zbt.b1 : C := .seq (.seq (.reg 0 [zm 0 56 6, zf 1 57 2 1, zl 2 58 1 57, zn 3 59 58, za 4 60 .lss 56 59, .g (.keep [2, 3, 6, 60])]) (.cond (.tmp 60) (.skip) (.exit 2))) (.seq (.block 3 (.seq (.reg 0 [zf 0 63 2 1, zl 1 64 1 63, zm 2 65 6, zx 3 66 10 64 65, zL 4 67 10 66, zf 5 68 3 1, zl 6 69 1 68, zm 7 70 6, zx 8 71 10 69 70, zL 9 72 10 71, .o 10 (.call (some 73) zbw.id [(.tmp 67), (.tmp 72)]), zq 11 74 73, .g (.keep [2, 3, 6, 74])]) (.cond (.tmp 74) (.seq (.reg 0 [zb 0 4 false, .g (.keep [4])]) (.ret)) (.skip)))) (.reg 0 [zm 0 61 6, zd 1 62 .add 61 1, zm 2 6 62, .g (.keep [2, 3, 6])]))
def zbt.b0 : C := .seq (.seq (.reg 0 [zm 0 38 5, zf 1 39 2 0, zl 2 40 1 39, zn 3 41 40, za 4 42 .lss 38 41, .g (.keep [2, 3, 5, 42])]) (.cond (.tmp 42) (.skip) (.exit 0))) (.seq (.block 1 (.seq (.reg 0 [zf 0 45 2 0, zl 1 46 1 45, zm 2 47 5, zx 3 48 3 46 47, zL 4 49 3 48, zf 5 50 3 0, zl 6 51 1 50, zm 7 52 5, zx 8 53 3 51 52, zL 9 54 3 53, .o 10 (.lt (some 55) (.eqD true [(0, 1), (1, 0), (2, 0)] (.tmp 49) (.tmp 54))), .g (.keep [2, 3, 5, 55])]) (.cond (.tmp 55) (.seq (.reg 0 [zb 0 4 false, .g (.keep [4])]) (.ret)) (.skip)))) (.reg 0 [zm 0 43 5, zd 1 44 .add 43 1, zm 2 5 44, .g (.keep [2, 3, 5])]))
def zbt.ir : C := .seq (.reg 2 [.o 0 (.box (some 2) 0 4 (.tmp 0)), .o 1 (.box (some 3) 1 4 (.tmp 1)), zb 2 4 false, .g (.keep [2, 3])]) (.seq (.seq (.reg 0 [zf 0 7 2 0, zl 1 8 1 7, zn 2 9 8, zf 3 10 3 0, zl 4 11 1 10, zn 5 12 11, za 6 13 .neq 9 12, zm 7 14 13, yf 8 14 false 15 2 1, yl 9 14 false 16 1 15, yn 10 14 false 17 16, yf 11 14 false 18 3 1, yl 12 14 false 19 1 18, yn 13 14 false 20 19, ya 14 14 false 21 .neq 17 20, zp 15 22 14 true 21, zm 16 23 22, yf 17 23 false 24 2 2, yl 18 23 false 25 1 24, yf 19 23 false 26 3 2, yl 20 23 false 27 1 26, yy 21 23 false 28 true 25 27, zp 22 29 23 true 28, zm 23 30 29, yf 24 30 false 31 2 3, yl 25 30 false 32 1 31, yf 26 30 false 33 3 3, yl 27 30 false 34 1 33, .gd 28 30 false (some 35) (.call (some 35) za6.id [(.tmp 32), (.tmp 34)]), yq 29 30 false 36 35, zp 30 37 30 true 36, .g (.keep [2, 3, 37])]) (.cond (.tmp 37) (.seq (.reg 0 [zb 0 4 false, .g (.keep [4])]) (.ret)) (.skip))) (.seq (.seq (.reg 0 [zk 0 5 0, .g (.keep [2, 3, 5])]) (.block 0 (.loop zbt.b0))) (.seq (.seq (.reg 0 [zk 0 6 0, .g (.keep [2, 3, 6])]) (.block 2 (.loop zbt.b1))) (.seq (.reg 0 [zb 0 4 true, .g (.keep [4])]) (.ret)))))
def zbt.rs : List Rs := [.sl 4]
theorem zbt.ok : isFn Tryz.prog zbt.id 75 zbt.ann zbt.ir zbt.rs := ⟨Tryz.f11, _, Tryz.func11, rfl, rfl, by kernel_rfl, by kernel_rfl⟩
def zbC.ann : List (Nat × RA) := [(0, rk [0]), (1, rk [0, 3]), (2, rp [0, 3] [(3, [1000000])]), (3, rp [0, 3] [(3, [1000000])]), (4, rp [0, 3] [(3, [1000000])]), (5, rp [0, 3] [(3, [1000000])]), (6, rp [0, 3] [(3, [1000000])]), (7, rp [0, 3] [(3, [1000000])]), (8, rp [0, 3] [(3, [1000000])]), (9, rp [0, 3] [(3, [1000000])]), (10, rp [0, 3] [(3, [1000000])]), (11, rp [0, 3] [(3, [1000000])]), (12, rp [0, 3] [(3, [1000000])]), (13, rp [0, 3] [(3, [1000000])]), (14, rp [0, 3] [(3, [1000000])]), (15, rp [3] [(3, [1000000])]), (16, rk [2])]
def zbC.ir : C := .seq (.reg 0 [zb 0 2 false, .g (.keep [0])]) (.seq (.reg 0 [zb 0 3 true, .g (.keep [0, 3])]) (.seq (.reg 0 [zm 0 4 3, zm 1 5 4, ym 2 5 true 6 0, .gd 3 5 true (some 7) (.callm (some 7) (.func zaz.id) [(.tmp 6)]), zr 4 8 5 7 false, zm 5 3 8, .g (.keep [0, 3])]) (.seq (.reg 0 [zm 0 9 3, zm 1 10 9, ym 2 10 true 11 0, .gd 3 10 true (some 12) (.callm (some 12) (.func zaG.id) [(.tmp 11)]), zr 4 13 10 12 false, zm 5 3 13, .g (.keep [0, 3])]) (.seq (.reg 0 [zm 0 14 3, zm 1 15 14, ym 2 15 true 16 0, .gd 3 15 true (some 17) (.callm (some 17) (.func zas.id) [(.tmp 16)]), zr 4 18 15 17 false, zm 5 3 18, .g (.keep [0, 3])]) (.seq (.reg 0 [zm 0 19 3, zm 1 20 19, ym 2 20 true 21 0, .gd 3 20 true (some 22) (.callm (some 22) (.func zaA.id) [(.tmp 21)]), zr 4 23 20 22 false, zm 5 3 23, .g (.keep [0, 3])]) (.seq (.reg 0 [zm 0 24 3, zm 1 25 24, ym 2 25 true 26 0, .gd 3 25 true (some 27) (.callm (some 27) (.func zaw.id) [(.tmp 26)]), zr 4 28 25 27 false, zm 5 3 28, .g (.keep [0, 3])]) (.seq (.reg 0 [zm 0 29 3, zm 1 30 29, ym 2 30 true 31 0, .gd 3 30 true (some 32) (.callm (some 32) (.func zaT.id) [(.tmp 31)]), zr 4 33 30 32 false, zm 5 3 33, .g (.keep [0, 3])]) (.seq (.reg 0 [zm 0 34 3, zm 1 35 34, ym 2 35 true 36 0, .gd 3 35 true (some 37) (.callm (some 37) (.func zaL.id) [(.tmp 36)]), zr 4 38 35 37 false, zm 5 3 38, .g (.keep [0, 3])]) (.seq (.reg 0 [zm 0 39 3, zm 1 40 39, ym 2 40 true 41 0, .gd 3 40 true (some 42) (.callm (some 42) (.func zaE.id) [(.tmp 41)]), zr 4 43 40 42 false, zm 5 3 43, .g (.keep [0, 3])]) (.seq (.reg 0 [zm 0 44 3, zm 1 45 44, ym 2 45 true 46 0, .gd 3 45 true (some 47) (.callm (some 47) (.func zar.id) [(.tmp 46)]), zr 4 48 45 47 false, zm 5 3 48, .g (.keep [0, 3])]) (.seq (.reg 0 [zm 0 49 3, zm 1 50 49, ym 2 50 true 51 0, .gd 3 50 true (some 52) (.callm (some 52) (.func zay.id) [(.tmp 51)]), zr 4 53 50 52 false, zm 5 3 53, .g (.keep [0, 3])]) (.seq (.reg 0 [zm 0 54 3, zm 1 55 54, ym 2 55 true 56 0, .gd 3 55 true (some 57) (.callm (some 57) (.func zaM.id) [(.tmp 56)]), zr 4 58 55 57 false, zm 5 3 58, .g (.keep [0, 3])]) (.seq (.reg 0 [zm 0 59 3, zm 1 60 59, ym 2 60 true 61 0, .gd 3 60 true (some 62) (.callm (some 62) (.func zaF.id) [(.tmp 61)]), zr 4 63 60 62 false, zm 5 3 63, .g (.keep [0, 3])]) (.seq (.reg 0 [zm 0 64 3, zm 1 65 64, ym 2 65 true 66 0, .gd 3 65 true (some 67) (.callm (some 67) (.func zav.id) [(.tmp 66)]), zr 4 68 65 67 false, zm 5 3 68, .g (.keep [0, 3])]) (.seq (.reg 0 [zm 0 69 3, zm 1 70 69, ym 2 70 true 71 0, .gd 3 70 true (some 72) (.callm (some 72) (.func zaK.id) [(.tmp 71)]), zr 4 73 70 72 false, zm 5 3 73, .g (.keep [3])]) (.seq (.reg 0 [zm 0 74 3, zm 1 2 74, .g (.keep [2])]) (.ret)))))))))))))))))
def zbC.rs : List Rs := [.sl 2]
theorem zbC.ok : isFn Tryz.prog zbC.id 75 zbC.ann zbC.ir zbC.rs := ⟨Tryz.f12, _, Tryz.func12, rfl, rfl, by kernel_rfl, by kernel_rfl⟩
def zbl.ann : List (Nat × RA) := [(0, rk [0, 3, 4]), (1, rp [0, 3, 4] [(3, [1000000])]), (2, rp [0, 3, 4] [(3, [1000000])]), (3, rp [3, 4] [(3, [1000000])]), (4, rk [4])]
def zbl.ir : C := .seq (.reg 2 [.o 0 (.box (some 3) 0 4 (.tmp 1)), .o 1 (.alloc (some 4) 1 4 [.a (.slice none 0 0), .a (.slice none 0 0), .a (.bool false), .a (.slice none 0 0)]), .g (.keep [0, 3, 4])]) (.seq (.reg 0 [zm 0 5 0, zf 1 6 3 0, zl 2 7 1 6, .o 3 (.callm (some 8) (.func zbE.id) [(.tmp 5), (.tmp 7)]), zf 4 9 3 0, .o 5 (.store [] 1 (.tmp 9) (.tmp 8)), .g (.keep [0, 3, 4])]) (.seq (.reg 0 [zm 0 10 0, zf 1 11 3 1, zl 2 12 1 11, .o 3 (.callm (some 13) (.func zbB.id) [(.tmp 10), (.tmp 12)]), zf 4 14 3 1, .o 5 (.store [] 1 (.tmp 14) (.tmp 13)), .g (.keep [0, 3, 4])]) (.seq (.reg 0 [zm 0 15 0, zf 1 16 3 3, zl 2 17 1 16, .o 3 (.callm (some 18) (.func zbm.id) [(.tmp 15), (.tmp 17)]), zf 4 19 3 3, .o 5 (.store [] 1 (.tmp 19) (.tmp 18)), .g (.keep [3, 4])]) (.seq (.reg 0 [zL 0 20 4 3, .o 1 (.store [] 4 (.tmp 4) (.tmp 20)), .g (.keep [4])]) (.ret)))))
def zbl.rs : List Rs := [.ce 4 true 4]
theorem zbl.ok : isFn Tryz.prog zbl.id 21 zbl.ann zbl.ir zbl.rs := ⟨Tryz.f13, _, Tryz.func13, rfl, rfl, by kernel_rfl, by kernel_rfl⟩
def za0.ann : List (Nat × RA) := [(0, rk [1]), (1, rk [1, 4, 5]), (2, rk [1, 4, 5, 15]), (3, rk [2, 3]), (4, rk [1, 6]), (5, rk [1, 6, 24]), (6, rk [2, 3]), (7, rk [1, 6, 7]), (8, rk [1, 6, 7, 30]), (9, rk [1, 6, 7]), (10, rk [1, 5, 6, 7]), (11, rk [1, 5, 6, 7, 41]), (12, rk [2, 3]), (13, rk [1, 4, 6]), (14, rk [1, 4, 6, 53]), (15, rk [4, 57]), (16, rk [2, 3]), (17, rk [2, 3]), (18, rk [1, 4, 6, 62]), (19, rk [2, 3]), (20, rk [4, 5]), (21, rk [4, 5, 69]), (22, rk [2, 3]), (23, rk [2, 3])]
def za0.b0 : C := .seq (.seq (.reg 0 [zm 0 26 7, zf 1 27 1 1, zl 2 28 1 27, zn 3 29 28, za 4 30 .lss 26 29, .g (.keep [1, 6, 7, 30])]) (.cond (.tmp 30) (.skip) (.exit 0))) (.seq (.block 1 (.seq (.reg 0 [zf 0 33 1 1, zl 1 34 1 33, zm 2 35 7, zx 3 36 10 34 35, zL 4 37 10 36, zm 5 38 6, .o 6 (.call (some 39) zaO.id [(.tmp 37), (.tmp 38)]), zm 7 5 39, .g (.keep [1, 5, 6, 7])]) (.seq (.reg 0 [zm 0 40 5, zd 1 41 .neq 40 0, .g (.keep [1, 5, 6, 7, 41])]) (.cond (.tmp 41) (.seq (.reg 0 [zm 0 42 6, zm 1 43 7, za 2 44 .add 42 43, zm 3 45 5, zm 4 2 44, zm 5 3 45, .g (.keep [2, 3])]) (.ret)) (.skip))))) (.reg 0 [zm 0 31 7, zd 1 32 .add 31 1, zm 2 7 32, .g (.keep [1, 6, 7])]))
def za0.ir : C := .seq (.reg 1 [.o 0 (.box (some 1) 0 4 (.tmp 0)), zk 1 2 0, zk 2 3 0, .g (.keep [1])]) (.seq (.reg 0 [zf 0 9 1 0, zl 1 10 1 9, .o 2 (.call (some 11) za8.id [(.tmp 10)]), zm 3 8 11, ze 4 12 8 0, ze 5 13 8 1, zm 6 4 12, zm 7 5 13, .g (.keep [1, 4, 5])]) (.seq (.seq (.reg 0 [zm 0 14 5, zd 1 15 .neq 14 0, .g (.keep [1, 4, 5, 15])]) (.cond (.tmp 15) (.seq (.reg 0 [zm 0 16 4, zm 1 17 5, zm 2 2 16, zm 3 3 17, .g (.keep [2, 3])]) (.ret)) (.skip))) (.seq (.reg 0 [zf 0 18 1 0, zl 1 19 1 18, zn 2 20 19, zm 3 6 20, .g (.keep [1, 6])]) (.seq (.seq (.reg 0 [zf 0 21 1 1, zl 1 22 1 21, zn 2 23 22, zd 3 24 .gtr 23 64, .g (.keep [1, 6, 24])]) (.cond (.tmp 24) (.seq (.reg 0 [zm 0 25 6, zm 1 2 25, zk 2 3 49, .g (.keep [2, 3])]) (.ret)) (.skip))) (.seq (.seq (.reg 0 [zk 0 7 0, .g (.keep [1, 6, 7])]) (.block 0 (.loop za0.b0))) (.seq (.reg 0 [zm 0 46 6, zf 1 47 1 1, zl 2 48 1 47, zn 3 49 48, za 4 50 .add 46 49, zm 5 4 50, .g (.keep [1, 4, 6])]) (.seq (.seq (.reg 0 [zf 0 51 1 2, zl 1 52 1 51, zq 2 53 52, .g (.keep [1, 4, 6, 53])]) (.cond (.tmp 53) (.seq (.seq (.reg 0 [zf 0 54 1 3, zl 1 55 1 54, zn 2 56 55, zd 3 57 .gtr 56 0, .g (.keep [4, 57])]) (.cond (.tmp 57) (.seq (.reg 0 [zm 0 58 4, zm 1 2 58, zk 2 3 48, .g (.keep [2, 3])]) (.ret)) (.skip))) (.seq (.reg 0 [zk 0 2 0, zk 1 3 0, .g (.keep [2, 3])]) (.ret))) (.skip))) (.seq (.seq (.reg 0 [zf 0 59 1 3, zl 1 60 1 59, zn 2 61 60, .o 3 (.call (some 62) zbu.id [(.tmp 61)]), .g (.keep [1, 4, 6, 62])]) (.cond (.tmp 62) (.seq (.reg 0 [zm 0 63 4, zm 1 2 63, zk 2 3 47, .g (.keep [2, 3])]) (.ret)) (.skip))) (.seq (.reg 0 [zf 0 64 1 3, zl 1 65 1 64, zm 2 66 6, .o 3 (.call (some 67) za4.id [(.tmp 65), (.tmp 66)]), zm 4 5 67, .g (.keep [4, 5])]) (.seq (.seq (.reg 0 [zm 0 68 5, zd 1 69 .neq 68 0, .g (.keep [4, 5, 69])]) (.cond (.tmp 69) (.seq (.reg 0 [zm 0 70 4, zm 1 71 5, zm 2 2 70, zm 3 3 71, .g (.keep [2, 3])]) (.ret)) (.skip))) (.seq (.reg 0 [zk 0 2 0, zk 1 3 0, .g (.keep [2, 3])]) (.ret))))))))))))
def za0.rs : List Rs := [.sl 2, .sl 3]
theorem za0.ok : isFn Tryz.prog za0.id 72 za0.ann za0.ir za0.rs := ⟨Tryz.f14, _, Tryz.func14, rfl, rfl, by kernel_rfl, by kernel_rfl⟩
def za9.ann : List (Nat × RA) := [(0, rk [1, 2]), (1, rk [1, 2, 15]), (2, rk [4, 5]), (3, rk [1, 2, 6]), (4, rk [1, 2, 6, 7]), (5, rk [1, 2, 6, 7, 20]), (6, rk [1, 2, 6, 7]), (7, ro [1, 2, 6, 7, 8] [0, 1, 2, 3, 4, 5, 6, 7, 8, 9, 10, 11, 12, 13, 14]), (8, rk [1, 2, 6, 7, 8, 41]), (9, rk [4, 5]), (10, rk [1, 2, 6, 7]), (11, rk [4, 5])]
def za9.b0 : C := .seq (.seq (.reg 0 [zm 0 16 7, zf 1 17 2 0, zl 2 18 1 17, zn 3 19 18, za 4 20 .lss 16 19, .g (.keep [1, 2, 6, 7, 20])]) (.cond (.tmp 20) (.skip) (.exit 0))) (.seq (.block 1 (.seq (.reg 0 [zf 0 23 2 0, zl 1 24 1 23, zm 2 25 7, zx 3 26 3 24 25, zf 4 27 26 2, zl 5 28 1 27, zf 6 29 2 0, zl 7 30 1 29, zm 8 31 7, zx 9 32 3 30 31, zf 10 33 32 1, zl 11 34 1 33, za 12 35 .sub 28 34, zd 13 36 .add 35 1, zm 14 8 36, .g (.keep [1, 2, 6, 7, 8])]) (.seq (.seq (.reg 0 [zm 0 37 6, zm 1 38 1, zm 2 39 8, za 3 40 .quo 38 39, za 4 41 .gtr 37 40, .g (.keep [1, 2, 6, 7, 8, 41])]) (.cond (.tmp 41) (.seq (.reg 0 [zk 0 4 0, zb 1 5 false, .g (.keep [4, 5])]) (.ret)) (.skip))) (.reg 0 [zm 0 42 6, zm 1 43 8, za 2 44 .mul 42 43, zm 3 6 44, .g (.keep [1, 2, 6, 7])])))) (.reg 0 [zm 0 21 7, zd 1 22 .add 21 1, zm 2 7 22, .g (.keep [1, 2, 6, 7])]))
def za9.ir : C := .seq (.reg 1 [.o 0 (.box (some 2) 0 4 (.tmp 0)), zk 1 4 0, zb 2 5 false, .g (.keep [1, 2])]) (.seq (.seq (.reg 0 [zL 0 9 4 2, .o 1 (.call (some 10) zbI.id [(.tmp 9)]), zq 2 11 10, zm 3 12 11, ym 4 12 false 13 1, yd 5 12 false 14 .lss 13 1, zp 6 15 12 true 14, .g (.keep [1, 2, 15])]) (.cond (.tmp 15) (.seq (.reg 0 [zk 0 4 0, zb 1 5 false, .g (.keep [4, 5])]) (.ret)) (.skip))) (.seq (.reg 0 [zk 0 6 1, .g (.keep [1, 2, 6])]) (.seq (.seq (.reg 0 [zk 0 7 0, .g (.keep [1, 2, 6, 7])]) (.block 0 (.loop za9.b0))) (.seq (.reg 0 [zm 0 45 6, zm 1 4 45, zb 2 5 true, .g (.keep [4, 5])]) (.ret)))))
def za9.rs : List Rs := [.sl 4, .sl 5]
theorem za9.ok : isFn Tryz.prog za9.id 46 za9.ann za9.ir za9.rs := ⟨Tryz.f15, _, Tryz.func15, rfl, rfl, by kernel_rfl, by kernel_rfl⟩
def zbU.ann : List (Nat × RA) := [(0, rk [1]), (1, rk [1, 19]), (2, rk [2, 3]), (3, rk [1, 22, 23]), (4, rk [1, 22, 23, 24]), (5, rk [1, 4, 22, 23]), (6, rk [1, 4, 5, 22, 23]), (7, rk [1, 4, 5, 22, 23, 31]), (8, rk [2, 3]), (9, rk [1, 22, 23]), (10, rk [1, 38]), (11, rk [2, 3]), (12, rk [1, 43, 44, 45]), (13, rk [1, 43, 44, 45, 46]), (14, rk [1, 6, 7, 43, 44, 45]), (15, rk [1, 6, 8, 43, 44, 45]), (16, rk [1, 6, 8, 43, 44, 45, 56]), (17, rk [2, 3]), (18, rk [1, 43, 44, 45]), (19, rk [1, 9]), (20, rk [1, 9, 67]), (21, rk [2, 3]), (22, rk [2, 3])]
def zbU.b1 : C := .seq (.reg 0 [za 0 46 .lss 45 44, .g (.keep [1, 43, 44, 45, 46])]) (.seq (.cond (.tmp 46) (.skip) (.exit 2)) (.seq (.block 3 (.seq (.reg 1 [zm 0 47 45, zx 1 48 10 43 45, zL 2 49 10 48, .o 3 (.alloc (some 7) 0 10 [.a (.int .i64 0), .a (.int .i64 0), .a (.slice none 0 0), .a (.int .i64 0), .a (.int .i64 0), .a (.int .i64 0), .a (.int .i64 0), .a (.slice none 0 0), .a (.slice none 0 0), .a (.slice none 0 0)]), zm 4 6 47, .o 5 (.store [] 10 (.tmp 7) (.tmp 49)), .g (.keep [1, 6, 7, 43, 44, 45])]) (.seq (.reg 0 [zL 0 50 10 7, zf 1 51 1 0, zl 2 52 1 51, zn 3 53 52, .o 4 (.call (some 54) zcu.id [(.tmp 50), (.tmp 53)]), zm 5 8 54, .g (.keep [1, 6, 8, 43, 44, 45])]) (.seq (.reg 0 [zm 0 55 8, zd 1 56 .neq 55 0, .g (.keep [1, 6, 8, 43, 44, 45, 56])]) (.cond (.tmp 56) (.seq (.reg 0 [zf 0 57 1 0, zl 1 58 1 57, zn 2 59 58, zm 3 60 6, za 4 61 .add 59 60, zm 5 62 8, zm 6 2 61, zm 7 3 62, .g (.keep [2, 3])]) (.ret)) (.skip)))))) (.reg 0 [zd 0 63 .add 45 1, zm 1 45 63, .g (.keep [1, 43, 44, 45])])))
def zbU.b0 : C := .seq (.reg 0 [za 0 24 .lss 23 22, .g (.keep [1, 22, 23, 24])]) (.seq (.cond (.tmp 24) (.skip) (.exit 0)) (.seq (.block 1 (.seq (.reg 0 [zm 0 25 23, zm 1 4 25, .g (.keep [1, 4, 22, 23])]) (.seq (.reg 0 [zf 0 26 1 0, zl 1 27 1 26, zm 2 28 4, .o 3 (.call (some 29) zbV.id [(.tmp 27), (.tmp 28)]), zm 4 5 29, .g (.keep [1, 4, 5, 22, 23])]) (.seq (.reg 0 [zm 0 30 5, zd 1 31 .neq 30 0, .g (.keep [1, 4, 5, 22, 23, 31])]) (.cond (.tmp 31) (.seq (.reg 0 [zm 0 32 4, zm 1 33 5, zm 2 2 32, zm 3 3 33, .g (.keep [2, 3])]) (.ret)) (.skip)))))) (.reg 0 [zd 0 34 .add 23 1, zm 1 23 34, .g (.keep [1, 22, 23])])))
def zbU.ir : C := .seq (.reg 1 [.o 0 (.box (some 1) 0 4 (.tmp 0)), zk 1 2 0, zk 2 3 0, .g (.keep [1])]) (.seq (.seq (.reg 0 [zf 0 10 1 0, zl 1 11 1 10, zn 2 12 11, zd 3 13 .eql 12 0, zm 4 14 13, yf 5 14 false 15 1 0, yl 6 14 false 16 1 15, yn 7 14 false 17 16, yd 8 14 false 18 .gtr 17 32, zp 9 19 14 true 18, .g (.keep [1, 19])]) (.cond (.tmp 19) (.seq (.reg 0 [zk 0 2 0, zk 1 3 40, .g (.keep [2, 3])]) (.ret)) (.skip))) (.seq (.seq (.reg 0 [zf 0 20 1 0, zl 1 21 1 20, zn 2 22 21, zk 3 23 0, .g (.keep [1, 22, 23])]) (.block 0 (.loop zbU.b0))) (.seq (.seq (.reg 0 [zf 0 35 1 1, zl 1 36 1 35, zn 2 37 36, zd 3 38 .gtr 37 64, .g (.keep [1, 38])]) (.cond (.tmp 38) (.seq (.reg 0 [zf 0 39 1 0, zl 1 40 1 39, zn 2 41 40, zm 3 2 41, zk 4 3 49, .g (.keep [2, 3])]) (.ret)) (.skip))) (.seq (.seq (.reg 0 [zf 0 42 1 1, zl 1 43 1 42, zn 2 44 43, zk 3 45 0, .g (.keep [1, 43, 44, 45])]) (.block 2 (.loop zbU.b1))) (.seq (.seq (.reg 0 [zL 0 64 4 1, .o 1 (.call (some 65) zcN.id [(.tmp 64)]), zm 2 9 65, .g (.keep [1, 9])]) (.seq (.reg 0 [zm 0 66 9, zd 1 67 .neq 66 0, .g (.keep [1, 9, 67])]) (.cond (.tmp 67) (.seq (.reg 0 [zf 0 68 1 0, zl 1 69 1 68, zn 2 70 69, zf 3 71 1 1, zl 4 72 1 71, zn 5 73 72, za 6 74 .add 70 73, zm 7 75 9, zm 8 2 74, zm 9 3 75, .g (.keep [2, 3])]) (.ret)) (.skip)))) (.seq (.reg 0 [zk 0 2 0, zk 1 3 0, .g (.keep [2, 3])]) (.ret)))))))
def zbU.rs : List Rs := [.sl 2, .sl 3]
theorem zbU.ok : isFn Tryz.prog zbU.id 76 zbU.ann zbU.ir zbU.rs := ⟨Tryz.f16, _, Tryz.func16, rfl, rfl, by kernel_rfl, by kernel_rfl⟩
def zbW.ann : List (Nat × RA) := [(0, rk [1, 2]), (1, rk [1, 2, 16]), (2, rk [4, 5]), (3, rk [1, 2, 6]), (4, rk [1, 6, 18, 19, 20]), (5, rk [1, 6, 18, 19, 20, 21]), (6, rk [1, 6, 8, 18, 19, 20]), (7, rk [1, 6, 9, 18, 19, 20]), (8, rk [1, 6, 9, 18, 19, 20, 34]), (9, rk [4, 5]), (10, rk [1, 6, 18, 19, 20]), (11, rk [1, 6, 18, 19, 20]), (12, rk [4, 5])]
def zbW.b0 : C := .seq (.reg 0 [za 0 21 .lss 20 19, .g (.keep [1, 6, 18, 19, 20, 21])]) (.seq (.cond (.tmp 21) (.skip) (.exit 0)) (.seq (.block 1 (.seq (.reg 1 [zx 0 22 3 18 20, zL 1 23 3 22, .o 2 (.alloc (some 8) 0 3 [.a (.string ⟨#[]⟩), .a (.int .i64 0), .a (.int .i64 0)]), .o 3 (.store [] 3 (.tmp 8) (.tmp 23)), .g (.keep [1, 6, 8, 18, 19, 20])]) (.seq (.reg 0 [zf 0 24 8 2, zl 1 25 1 24, zf 2 26 8 1, zl 3 27 1 26, za 4 28 .sub 25 27, zd 5 29 .add 28 1, zm 6 9 29, .g (.keep [1, 6, 9, 18, 19, 20])]) (.seq (.seq (.reg 0 [zm 0 30 6, zm 1 31 1, zm 2 32 9, za 3 33 .quo 31 32, za 4 34 .gtr 30 33, .g (.keep [1, 6, 9, 18, 19, 20, 34])]) (.cond (.tmp 34) (.seq (.reg 0 [zk 0 4 0, zb 1 5 false, .g (.keep [4, 5])]) (.ret)) (.skip))) (.reg 0 [zm 0 35 6, zm 1 36 9, za 2 37 .mul 35 36, zm 3 6 37, .g (.keep [1, 6, 18, 19, 20])]))))) (.reg 0 [zd 0 38 .add 20 1, zm 1 20 38, .g (.keep [1, 6, 18, 19, 20])])))
def zbW.ir : C := .seq (.reg 1 [.o 0 (.box (some 2) 0 4 (.tmp 0)), zk 1 4 0, zb 2 5 false, .g (.keep [1, 2])]) (.seq (.seq (.reg 0 [zL 0 10 4 2, .o 1 (.call (some 11) zct.id [(.tmp 10)]), zq 2 12 11, zm 3 13 12, ym 4 13 false 14 1, yd 5 13 false 15 .lss 14 1, zp 6 16 13 true 15, .g (.keep [1, 2, 16])]) (.cond (.tmp 16) (.seq (.reg 0 [zk 0 4 0, zb 1 5 false, .g (.keep [4, 5])]) (.ret)) (.skip))) (.seq (.reg 0 [zk 0 6 1, .g (.keep [1, 2, 6])]) (.seq (.seq (.reg 0 [zf 0 17 2 0, zl 1 18 1 17, zn 2 19 18, zk 3 20 0, .g (.keep [1, 6, 18, 19, 20])]) (.block 0 (.loop zbW.b0))) (.seq (.reg 0 [zm 0 39 6, zm 1 4 39, zb 2 5 true, .g (.keep [4, 5])]) (.ret)))))
def zbW.rs : List Rs := [.sl 4, .sl 5]
theorem zbW.ok : isFn Tryz.prog zbW.id 40 zbW.ann zbW.ir zbW.rs := ⟨Tryz.f17, _, Tryz.func17, rfl, rfl, by kernel_rfl, by kernel_rfl⟩
def zcF.ann : List (Nat × RA) := [(0, rk [1]), (1, rk [2])]
def zcF.ir : C := .seq (.reg 1 [.o 0 (.box (some 1) 0 4 (.tmp 0)), zk 1 2 0, .g (.keep [1])]) (.seq (.reg 0 [zL 0 3 4 1, .o 1 (.call (some 4) zcq.id [(.tmp 3), (.const (.bool true))]), zm 2 2 4, .g (.keep [2])]) (.ret))
def zcF.rs : List Rs := [.sl 2]
theorem zcF.ok : isFn Tryz.prog zcF.id 5 zcF.ann zcF.ir zcF.rs := ⟨Tryz.f18, _, Tryz.func18, rfl, rfl, by kernel_rfl, by kernel_rfl⟩
def zbP.ann : List (Nat × RA) := [(0, rk [1]), (1, rk [2])]
def zbP.ir : C := .seq (.reg 1 [.o 0 (.box (some 1) 0 4 (.tmp 0)), zk 1 2 0, .g (.keep [1])]) (.seq (.reg 0 [zL 0 3 4 1, .o 1 (.call (some 4) zbr.id [(.tmp 3), (.const (.int .i64 1))]), zm 2 2 4, .g (.keep [2])]) (.ret))
def zbP.rs : List Rs := [.sl 2]
theorem zbP.ok : isFn Tryz.prog zbP.id 5 zbP.ann zbP.ir zbP.rs := ⟨Tryz.f19, _, Tryz.func19, rfl, rfl, by kernel_rfl, by kernel_rfl⟩
def zcM.ann : List (Nat × RA) := [(0, rk [1]), (1, rk [2])]
def zcM.ir : C := .seq (.reg 1 [.o 0 (.box (some 1) 0 4 (.tmp 0)), zk 1 2 0, .g (.keep [1])]) (.seq (.reg 0 [zL 0 3 4 1, .o 1 (.call (some 4) zcq.id [(.tmp 3), (.const (.bool false))]), zm 2 2 4, .g (.keep [2])]) (.ret))
def zcM.rs : List Rs := [.sl 2]
theorem zcM.ok : isFn Tryz.prog zcM.id 5 zcM.ann zcM.ir zcM.rs := ⟨Tryz.f20, _, Tryz.func20, rfl, rfl, by kernel_rfl, by kernel_rfl⟩
def zbT.ann : List (Nat × RA) := [(0, rk [1]), (1, rk [2])]
def zbT.ir : C := .seq (.reg 1 [.o 0 (.box (some 1) 0 4 (.tmp 0)), zk 1 2 0, .g (.keep [1])]) (.seq (.reg 0 [zL 0 3 4 1, .o 1 (.call (some 4) zbr.id [(.tmp 3), (.const (.int .i64 (-1)))]), zm 2 2 4, .g (.keep [2])]) (.ret))
def zbT.rs : List Rs := [.sl 2]
theorem zbT.ok : isFn Tryz.prog zbT.id 5 zbT.ann zbT.ir zbT.rs := ⟨Tryz.f21, _, Tryz.func21, rfl, rfl, by kernel_rfl, by kernel_rfl⟩
def zbK.ann : List (Nat × RA) := [(0, rk [2, 3]), (1, rk [2, 3, 17]), (2, rk [4]), (3, rk [2, 3, 19, 20, 21]), (4, rk [2, 3, 19, 20, 21, 22]), (5, rk [2, 3, 5, 6, 19, 20, 21]), (6, ro [2, 3, 19, 20, 21, 41] [0, 1, 2, 3, 4, 5, 6, 7, 8, 9, 10, 11, 12, 13, 14, 15]), (7, rk [4]), (8, rk [2, 3, 19, 20, 21]), (9, rp [4] [(3, [1000001])])]
def zbK.b0 : C := .seq (.reg 0 [za 0 22 .lss 21 20, .g (.keep [2, 3, 19, 20, 21, 22])]) (.seq (.cond (.tmp 22) (.skip) (.exit 0)) (.seq (.block 1 (.seq (.reg 1 [zm 0 23 21, zx 1 24 3 19 21, zL 2 25 3 24, .o 3 (.alloc (some 6) 0 3 [.a (.string ⟨#[]⟩), .a (.int .i64 0), .a (.int .i64 0)]), zm 4 5 23, .o 5 (.store [] 3 (.tmp 6) (.tmp 25)), .g (.keep [2, 3, 5, 6, 19, 20, 21])]) (.seq (.reg 0 [zl 0 26 1 3, zm 1 27 5, zx 2 28 1 26 27, zl 3 29 1 28, zf 4 30 6 1, zl 5 31 1 30, za 6 32 .lss 29 31, zm 7 33 32, yl 8 33 false 34 1 3, ym 9 33 false 35 5, yx 10 33 false 36 1 34 35, yl 11 33 false 37 1 36, yf 12 33 false 38 6 2, yl 13 33 false 39 1 38, ya 14 33 false 40 .gtr 37 39, zp 15 41 33 true 40, .g (.keep [2, 3, 19, 20, 21, 41])]) (.cond (.tmp 41) (.seq (.reg 0 [zb 0 4 false, .g (.keep [4])]) (.ret)) (.skip))))) (.reg 0 [zd 0 42 .add 21 1, zm 1 21 42, .g (.keep [2, 3, 19, 20, 21])])))
def zbK.ir : C := .seq (.reg 2 [.o 0 (.box (some 2) 0 4 (.tmp 0)), .o 1 (.box (some 3) 1 1 (.tmp 1)), zb 2 4 false, .g (.keep [2, 3])]) (.seq (.seq (.reg 0 [zL 0 7 4 2, .o 1 (.call (some 8) zct.id [(.tmp 7)]), zq 2 9 8, zm 3 10 9, yl 4 10 false 11 1 3, yn 5 10 false 12 11, yf 6 10 false 13 2 0, yl 7 10 false 14 1 13, yn 8 10 false 15 14, ya 9 10 false 16 .neq 12 15, zp 10 17 10 true 16, .g (.keep [2, 3, 17])]) (.cond (.tmp 17) (.seq (.reg 0 [zb 0 4 false, .g (.keep [4])]) (.ret)) (.skip))) (.seq (.seq (.reg 0 [zf 0 18 2 0, zl 1 19 1 18, zn 2 20 19, zk 3 21 0, .g (.keep [2, 3, 19, 20, 21])]) (.block 0 (.loop zbK.b0))) (.seq (.reg 0 [zf 0 43 2 1, zl 1 44 1 43, .o 2 (.lt (some 45) (.mkfn (.func zb3.id) [] [(.tmp 3)])), .o 3 (.callb (some 46) (.func zat.id) [(.tmp 44), (.tmp 45)]), zq 4 47 46, zm 5 4 47, .g (.keep [4])]) (.ret))))
def zbK.rs : List Rs := [.sl 4]
theorem zbK.ok : isFn Tryz.prog zbK.id 48 zbK.ann zbK.ir zbK.rs := ⟨Tryz.f22, _, Tryz.func22, rfl, rfl, by kernel_rfl, by kernel_rfl⟩
def zaH.ann : List (Nat × RA) := [(0, rk [1, 2]), (1, rk [1, 2, 17]), (2, rk [4]), (3, rk [1, 2, 5]), (4, rk [1, 2, 5, 21]), (5, rk [1, 2, 5]), (6, ro [1, 2, 5, 47] [0, 1, 2, 3, 4, 5, 6, 7, 8, 9, 10, 11, 12, 13, 14, 15, 16, 17, 18, 19, 20, 21, 22, 23]), (7, rk [4]), (8, rk [1, 2, 6]), (9, rk [1, 2, 6, 52]), (10, rk [1, 2, 6]), (11, rk [1, 2, 6, 62]), (12, rk [4]), (13, rk [4])]
def zaH.b1 : C := .seq (.seq (.reg 0 [zm 0 48 6, zf 1 49 2 1, zl 2 50 1 49, zn 3 51 50, za 4 52 .lss 48 51, .g (.keep [1, 2, 6, 52])]) (.cond (.tmp 52) (.skip) (.exit 2))) (.seq (.block 3 (.seq (.reg 0 [zf 0 55 2 1, zl 1 56 1 55, zm 2 57 6, zx 3 58 10 56 57, zL 4 59 10 58, zm 5 60 1, .o 6 (.call (some 61) zaj.id [(.tmp 59), (.tmp 60)]), zq 7 62 61, .g (.keep [1, 2, 6, 62])]) (.cond (.tmp 62) (.seq (.reg 0 [zb 0 4 false, .g (.keep [4])]) (.ret)) (.skip)))) (.reg 0 [zm 0 53 6, zd 1 54 .add 53 1, zm 2 6 54, .g (.keep [1, 2, 6])]))
def zaH.b0 : C := .seq (.seq (.reg 0 [zm 0 18 5, zm 1 19 1, zn 2 20 19, za 3 21 .lss 18 20, .g (.keep [1, 2, 5, 21])]) (.cond (.tmp 21) (.skip) (.exit 0))) (.seq (.block 1 (.seq (.reg 0 [zm 0 24 1, zm 1 25 5, zx 2 26 1 24 25, zl 3 27 1 26, zf 4 28 2 0, zl 5 29 1 28, zm 6 30 5, zx 7 31 3 29 30, zf 8 32 31 1, zl 9 33 1 32, za 10 34 .lss 27 33, zm 11 35 34, ym 12 35 false 36 1, ym 13 35 false 37 5, yx 14 35 false 38 1 36 37, yl 15 35 false 39 1 38, yf 16 35 false 40 2 0, yl 17 35 false 41 1 40, ym 18 35 false 42 5, yx 19 35 false 43 3 41 42, yf 20 35 false 44 43 2, yl 21 35 false 45 1 44, ya 22 35 false 46 .gtr 39 45, zp 23 47 35 true 46, .g (.keep [1, 2, 5, 47])]) (.cond (.tmp 47) (.seq (.reg 0 [zb 0 4 false, .g (.keep [4])]) (.ret)) (.skip)))) (.reg 0 [zm 0 22 5, zd 1 23 .add 22 1, zm 2 5 23, .g (.keep [1, 2, 5])]))
def zaH.ir : C := .seq (.reg 1 [.o 0 (.box (some 2) 0 4 (.tmp 0)), zb 1 4 false, .g (.keep [1, 2])]) (.seq (.seq (.reg 0 [zL 0 7 4 2, .o 1 (.call (some 8) zbI.id [(.tmp 7)]), zq 2 9 8, zm 3 10 9, ym 4 10 false 11 1, yn 5 10 false 12 11, yf 6 10 false 13 2 0, yl 7 10 false 14 1 13, yn 8 10 false 15 14, ya 9 10 false 16 .neq 12 15, zp 10 17 10 true 16, .g (.keep [1, 2, 17])]) (.cond (.tmp 17) (.seq (.reg 0 [zb 0 4 false, .g (.keep [4])]) (.ret)) (.skip))) (.seq (.seq (.reg 0 [zk 0 5 0, .g (.keep [1, 2, 5])]) (.block 0 (.loop zaH.b0))) (.seq (.seq (.reg 0 [zk 0 6 0, .g (.keep [1, 2, 6])]) (.block 2 (.loop zaH.b1))) (.seq (.reg 0 [zb 0 4 true, .g (.keep [4])]) (.ret)))))
def zaH.rs : List Rs := [.sl 4]
theorem zaH.ok : isFn Tryz.prog zaH.id 63 zaH.ann zaH.ir zaH.rs := ⟨Tryz.f23, _, Tryz.func23, rfl, rfl, by kernel_rfl, by kernel_rfl⟩
def zcG.ann : List (Nat × RA) := [(0, rk [2, 3]), (1, rk [2, 3, 20]), (2, rk [4]), (3, rp [4] [(3, [1000001])])]
def zcG.ir : C := .seq (.reg 2 [.o 0 (.box (some 2) 0 4 (.tmp 0)), .o 1 (.box (some 3) 1 1 (.tmp 1)), zk 2 4 0, .g (.keep [2, 3])]) (.seq (.seq (.reg 0 [zL 0 5 4 2, .o 1 (.call (some 6) zct.id [(.tmp 5)]), zq 2 7 6, zm 3 8 7, yl 4 8 false 9 1 3, yn 5 8 false 10 9, yf 6 8 false 11 2 0, yl 7 8 false 12 1 11, yn 8 8 false 13 12, ya 9 8 false 14 .neq 10 13, zp 10 15 8 true 14, zm 11 16 15, yl 12 16 false 17 1 3, .gd 13 16 false (some 18) (.call (some 18) zcB.id [(.tmp 17)]), yq 14 16 false 19 18, zp 15 20 16 true 19, .g (.keep [2, 3, 20])]) (.cond (.tmp 20) (.seq (.reg 0 [zk 0 4 0, .g (.keep [4])]) (.ret)) (.skip))) (.seq (.reg 0 [zf 0 21 2 3, zl 1 22 1 21, .o 2 (.lt (some 23) (.mkfn (.func zca.id) [] [(.tmp 3)])), .o 3 (.callb (some 24) (.func zcp.id) [(.tmp 22), (.tmp 23)]), zm 4 4 24, .g (.keep [4])]) (.ret)))
def zcG.rs : List Rs := [.sl 4]
theorem zcG.ok : isFn Tryz.prog zcG.id 25 zcG.ann zcG.ir zcG.rs := ⟨Tryz.f24, _, Tryz.func24, rfl, rfl, by kernel_rfl, by kernel_rfl⟩
def zbq.ann : List (Nat × RA) := [(0, rk [1, 2]), (1, rk [1, 2, 20]), (2, rk [4]), (3, rk [4])]
def zbq.ir : C := .seq (.reg 1 [.o 0 (.box (some 2) 0 4 (.tmp 0)), zk 1 4 0, .g (.keep [1, 2])]) (.seq (.seq (.reg 0 [zL 0 5 4 2, .o 1 (.call (some 6) zbI.id [(.tmp 5)]), zq 2 7 6, zm 3 8 7, ym 4 8 false 9 1, yn 5 8 false 10 9, yf 6 8 false 11 2 0, yl 7 8 false 12 1 11, yn 8 8 false 13 12, ya 9 8 false 14 .neq 10 13, zp 10 15 8 true 14, zm 11 16 15, ym 12 16 false 17 1, .gd 13 16 false (some 18) (.call (some 18) zbb.id [(.tmp 17)]), yq 14 16 false 19 18, zp 15 20 16 true 19, .g (.keep [1, 2, 20])]) (.cond (.tmp 20) (.seq (.reg 0 [zk 0 4 0, .g (.keep [4])]) (.ret)) (.skip))) (.seq (.reg 0 [zf 0 21 2 3, zl 1 22 1 21, zm 2 23 1, .o 3 (.call (some 24) zbL.id [(.tmp 22), (.tmp 23)]), zm 4 4 24, .g (.keep [4])]) (.ret)))
def zbq.rs : List Rs := [.sl 4]
theorem zbq.ok : isFn Tryz.prog zbq.id 25 zbq.ann zbq.ir zbq.rs := ⟨Tryz.f25, _, Tryz.func25, rfl, rfl, by kernel_rfl, by kernel_rfl⟩
def zbZ.ann : List (Nat × RA) := [(0, rk [0]), (1, rk [2])]
def zbZ.ir : C := .seq (.reg 0 [.o 0 (.lt (some 2) (.mov (.const (.pointer none)))), .g (.keep [0])]) (.seq (.reg 1 [zm 0 3 0, .o 1 (.lt (some 4) (.build [.a (.int .i64 0)] [(0, 1, (.tmp 3))])), .o 2 (.box (some 5) 0 1 (.tmp 4)), zm 3 2 5, .g (.keep [2])]) (.ret))
def zbZ.rs : List Rs := [.sl 2]
theorem zbZ.ok : isFn Tryz.prog zbZ.id 6 zbZ.ann zbZ.ir zbZ.rs := ⟨Tryz.f26, _, Tryz.func26, rfl, rfl, by kernel_rfl, by kernel_rfl⟩
def zaD.ann : List (Nat × RA) := [(0, rk [0, 3]), (1, rk [0, 3, 4]), (2, rp [0, 3, 4, 14] [(7, [1000000])]), (3, rk [0, 3, 4]), (4, rp [0, 3, 4] [(7, [1000000])]), (5, rk [0, 3, 5]), (6, rp [0, 3, 5, 33] [(7, [1000000])]), (7, rk [0, 3, 5]), (8, rp [0, 3, 5] [(6, [1000000])]), (9, rp [] [(4, [1000000])])]
def zaD.b1 : C := .seq (.seq (.reg 0 [zm 0 25 5, zf 1 26 3 1, zl 2 27 1 26, zn 3 28 27, za 4 29 .lss 25 28, zm 5 30 29, ym 6 30 true 31 0, .gd 7 30 true (some 32) (.callm (some 32) (.func zbf.id) [(.tmp 31)]), zr 8 33 30 32 false, .g (.keep [0, 3, 5, 33])]) (.cond (.tmp 33) (.skip) (.exit 2))) (.seq (.block 3 (.reg 0 [zm 0 36 0, zf 1 37 3 1, zl 2 38 1 37, zm 3 39 5, zx 4 40 10 38 39, zL 5 41 10 40, .o 6 (.callm (some 42) (.func zbA.id) [(.tmp 36), (.tmp 41)]), .g (.keep [0, 3, 5])])) (.reg 0 [zm 0 34 5, zd 1 35 .add 34 1, zm 2 5 35, .g (.keep [0, 3, 5])]))
def zaD.b0 : C := .seq (.seq (.reg 0 [zm 0 6 4, zf 1 7 3 0, zl 2 8 1 7, zn 3 9 8, za 4 10 .lss 6 9, zm 5 11 10, ym 6 11 true 12 0, .gd 7 11 true (some 13) (.callm (some 13) (.func zbf.id) [(.tmp 12)]), zr 8 14 11 13 false, .g (.keep [0, 3, 4, 14])]) (.cond (.tmp 14) (.skip) (.exit 0))) (.seq (.block 1 (.reg 0 [zm 0 17 0, zf 1 18 3 0, zl 2 19 1 18, zm 3 20 4, zx 4 21 3 19 20, zf 5 22 21 0, zl 6 23 1 22, .o 7 (.callm (some 24) (.func zbk.id) [(.tmp 17), (.tmp 23)]), .g (.keep [0, 3, 4])])) (.reg 0 [zm 0 15 4, zd 1 16 .add 15 1, zm 2 4 16, .g (.keep [0, 3, 4])]))
def zaD.ir : C := .seq (.reg 1 [.o 0 (.box (some 3) 0 4 (.tmp 1)), .g (.keep [0, 3])]) (.seq (.seq (.reg 0 [zk 0 4 0, .g (.keep [0, 3, 4])]) (.block 0 (.loop zaD.b0))) (.seq (.seq (.reg 0 [zk 0 5 0, .g (.keep [0, 3, 5])]) (.block 2 (.loop zaD.b1))) (.reg 0 [zm 0 43 0, zf 1 44 3 3, zl 2 45 1 44, zn 3 46 45, .o 4 (.callm (some 47) (.func zaQ.id) [(.tmp 43), (.tmp 46)]), .g (.keep [])])))
def zaD.rs : List Rs := []
theorem zaD.ok : isFn Tryz.prog zaD.id 48 zaD.ann zaD.ir zaD.rs := ⟨Tryz.f27, _, Tryz.func27, rfl, rfl, by kernel_rfl, by kernel_rfl⟩
def zaQ.ann : List (Nat × RA) := [(0, rk [0, 1]), (1, rk [0, 1, 9]), (2, rk [0]), (3, rk [4])]
def zaQ.ir : C := .seq (.reg 0 [zb 0 4 false, .g (.keep [0, 1])]) (.seq (.seq (.reg 0 [zm 0 5 0, zc 1 6 5, zf 2 7 6 0, zl 3 8 1 7, zd 4 9 .geq 8 0, .g (.keep [0, 1, 9])]) (.cond (.tmp 9) (.reg 0 [zm 0 10 0, zm 1 11 0, zc 2 12 11, zf 3 13 12 0, zl 4 14 1 13, zm 5 15 1, za 6 16 .sub 14 15, zc 7 17 10, zf 8 18 17 0, .o 9 (.store [] 1 (.tmp 18) (.tmp 16)), .g (.keep [0])]) (.skip))) (.seq (.reg 0 [zm 0 19 0, zc 1 20 19, zf 2 21 20 0, zl 3 22 1 21, zd 4 23 .geq 22 0, zm 5 4 23, .g (.keep [4])]) (.ret)))
def zaQ.rs : List Rs := [.sl 4]
theorem zaQ.ok : isFn Tryz.prog zaQ.id 24 zaQ.ann zaQ.ir zaQ.rs := ⟨Tryz.f28, _, Tryz.func28, rfl, rfl, by kernel_rfl, by kernel_rfl⟩
def zbf.ann : List (Nat × RA) := [(0, rk [0]), (1, rk [2])]
def zbf.ir : C := .seq (.reg 0 [zb 0 2 false, .g (.keep [0])]) (.seq (.reg 0 [zm 0 3 0, zc 1 4 3, zf 2 5 4 0, zl 3 6 1 5, zd 4 7 .geq 6 0, zm 5 2 7, .g (.keep [2])]) (.ret))
def zbf.rs : List Rs := [.sl 2]
theorem zbf.ok : isFn Tryz.prog zbf.id 8 zbf.ann zbf.ir zbf.rs := ⟨Tryz.f29, _, Tryz.func29, rfl, rfl, by kernel_rfl, by kernel_rfl⟩
def zbm.ann : List (Nat × RA) := [(0, rk [0, 1]), (1, rp [4] [(2, [1000000])])]
def zbm.ir : C := .seq (.reg 0 [.o 0 (.lt (some 4) (.mov (.const (.slice none 0 0)))), .g (.keep [0, 1])]) (.seq (.reg 0 [zm 0 5 0, zm 1 6 1, .o 2 (.callm (some 7) (.func zaN.id) [(.tmp 5), (.tmp 6), (.const (.int .i64 40))]), zm 3 4 7, .g (.keep [4])]) (.ret))
def zbm.rs : List Rs := [.sl 4]
theorem zbm.ok : isFn Tryz.prog zbm.id 8 zbm.ann zbm.ir zbm.rs := ⟨Tryz.f30, _, Tryz.func30, rfl, rfl, by kernel_rfl, by kernel_rfl⟩
def zaB.ann : List (Nat × RA) := [(0, rk [0, 1, 2]), (1, rp [0, 1, 2, 7] [(0, [1000004])]), (2, { gs := [(0, [.wk])], keep := some [0, 1, 2, 7] }), (3, rk [0, 1, 2, 7, 8]), (4, rk [0, 1, 2, 7, 8, 15]), (5, rk [0, 1, 2, 7, 8]), (6, rp [0, 1, 2, 7, 8] [(3, [1000004])]), (7, { gs := [(0, [.frz 7])], keep := some [0, 1, 7], aps := [(6, [1000004])] }), (8, rp [1, 7] [(7, [1000004])]), (9, rk [6])]
def zaB.b0 : C := .seq (.seq (.reg 0 [zm 0 13 8, zm 1 14 2, za 2 15 .lss 13 14, .g (.keep [0, 1, 2, 7, 8, 15])]) (.cond (.tmp 15) (.skip) (.exit 0))) (.seq (.block 1 (.reg 2 [zm 0 18 7, zm 1 19 8, .o 2 (.call (some 20) zaZ.id [(.tmp 19)]), .o 3 (.bsv (some 21) 1 1 [.a (.int .i64 0)] [(0, (.tmp 20))]), .o 4 (.app [] (some 22) 1 1 8 (.tmp 18) (.tmp 21)), zm 5 7 22, .g (.keep [0, 1, 2, 7, 8])])) (.reg 0 [zm 0 16 8, zd 1 17 .add 16 1, zm 2 8 17, .g (.keep [0, 1, 2, 7, 8])]))
def zaB.ir : C := .seq (.reg 0 [.o 0 (.lt (some 6) (.mov (.const (.slice none 0 0)))), .g (.keep [0, 1, 2])]) (.seq (.reg 1 [.o 0 (.bsv (some 9) 1 0 [.a (.int .i64 0)] []), zm 1 7 9, .g (.keep [0, 1, 2, 7])]) (.seq (.reg 1 [.g (.wk), zm 0 10 7, zm 1 11 1, .o 2 (.app [] (some 12) 0 1 8 (.tmp 10) (.tmp 11)), zm 3 7 12, .g (.keep [0, 1, 2, 7])]) (.seq (.seq (.reg 0 [zk 0 8 0, .g (.keep [0, 1, 2, 7, 8])]) (.block 0 (.loop zaB.b0))) (.seq (.reg 2 [.g (.frz 7), zm 0 23 0, zm 1 24 0, zc 2 25 24, zf 3 26 25 0, zl 4 27 1 26, zm 5 28 7, .o 6 (.bsv (some 29) 1 1 [.a (.slice none 0 0)] [(0, (.tmp 28))]), .o 7 (.app [] (some 30) 1 1 24 (.tmp 27) (.tmp 29)), zc 8 31 23, zf 9 32 31 0, .o 10 (.store [] 1 (.tmp 32) (.tmp 30)), .g (.keep [0, 1, 7])]) (.seq (.reg 2 [zm 0 33 0, zm 1 34 0, zc 2 35 34, zf 3 36 35 1, zl 4 37 1 36, zm 5 38 1, zn 6 39 38, .o 7 (.bsv (some 40) 1 1 [.a (.int .i64 0)] [(0, (.tmp 39))]), .o 8 (.app [] (some 41) 1 1 8 (.tmp 37) (.tmp 40)), zc 9 42 33, zf 10 43 42 1, .o 11 (.store [] 1 (.tmp 43) (.tmp 41)), .g (.keep [1, 7])]) (.seq (.reg 0 [zm 0 44 7, zm 1 45 1, zn 2 46 45, zm 3 47 7, zn 4 48 47, .o 5 (.lt (some 49) (.slM 1 (.tmp 44) (.tmp 46) (.tmp 48))), zm 6 6 49, .g (.keep [6])]) (.ret)))))))
def zaB.rs : List Rs := [.sl 6]
theorem zaB.ok : isFn Tryz.prog zaB.id 50 zaB.ann zaB.ir zaB.rs := ⟨Tryz.f32, _, Tryz.func32, rfl, rfl, by kernel_rfl, by kernel_rfl⟩
def zaO.ann : List (Nat × RA) := [(0, rk [1, 2]), (1, rk [1, 2, 37]), (2, rk [4]), (3, rk [1, 2, 39]), (4, rk [4]), (5, rk [1, 2, 5]), (6, rk [1, 2, 86]), (7, rk [4]), (8, rk [1, 2, 6]), (9, rk [2, 6, 98]), (10, rk [4]), (11, rk [2, 6, 100]), (12, rk [4]), (13, rk [2, 111]), (14, rk [4]), (15, rk [2, 7]), (16, rk [2, 7, 116]), (17, rk [2, 7]), (18, rk [2, 7, 8]), (19, rk [2, 7, 8, 126]), (20, rk [2, 7, 8]), (21, rk [2, 7, 8, 138]), (22, rk [4]), (23, rk [2, 9]), (24, rk [2, 9, 143]), (25, rk [2, 9]), (26, rk [2, 9, 152]), (27, rk [4]), (28, rk [4])]
def zaO.b2 : C := .seq (.seq (.reg 0 [zm 0 139 9, zf 1 140 2 8, zl 2 141 1 140, zn 3 142 141, za 4 143 .lss 139 142, .g (.keep [2, 9, 143])]) (.cond (.tmp 143) (.skip) (.exit 4))) (.seq (.block 5 (.seq (.reg 0 [zf 0 146 2 8, zl 1 147 1 146, zm 2 148 9, zx 3 149 1 147 148, zl 4 150 1 149, .o 5 (.call (some 151) zbi.id [(.tmp 150)]), zq 6 152 151, .g (.keep [2, 9, 152])]) (.cond (.tmp 152) (.seq (.reg 0 [zk 0 4 46, .g (.keep [4])]) (.ret)) (.skip)))) (.reg 0 [zm 0 144 9, zd 1 145 .add 144 1, zm 2 9 145, .g (.keep [2, 9])]))
def zaO.b1 : C := .seq (.seq (.reg 0 [zm 0 119 8, zf 1 120 2 9, zl 2 121 1 120, zm 3 122 7, zx 4 123 1 121 122, zl 5 124 1 123, zn 6 125 124, za 7 126 .lss 119 125, .g (.keep [2, 7, 8, 126])]) (.cond (.tmp 126) (.skip) (.exit 2))) (.seq (.block 3 (.seq (.reg 0 [zf 0 129 2 9, zl 1 130 1 129, zm 2 131 7, zx 3 132 1 130 131, zl 4 133 1 132, zm 5 134 8, zx 6 135 1 133 134, zl 7 136 1 135, .o 8 (.call (some 137) zbi.id [(.tmp 136)]), zq 9 138 137, .g (.keep [2, 7, 8, 138])]) (.cond (.tmp 138) (.seq (.reg 0 [zk 0 4 46, .g (.keep [4])]) (.ret)) (.skip)))) (.reg 0 [zm 0 127 8, zd 1 128 .add 127 1, zm 2 8 128, .g (.keep [2, 7, 8])]))
def zaO.b0 : C := .seq (.seq (.reg 0 [zm 0 112 7, zf 1 113 2 9, zl 2 114 1 113, zn 3 115 114, za 4 116 .lss 112 115, .g (.keep [2, 7, 116])]) (.cond (.tmp 116) (.skip) (.exit 0))) (.seq (.block 1 (.seq (.reg 0 [zk 0 8 0, .g (.keep [2, 7, 8])]) (.block 2 (.loop zaO.b1)))) (.reg 0 [zm 0 117 7, zd 1 118 .add 117 1, zm 2 7 118, .g (.keep [2, 7])]))
def zaO.ir : C := .seq (.reg 1 [.o 0 (.box (some 2) 0 10 (.tmp 0)), zk 1 4 0, .g (.keep [1, 2])]) (.seq (.seq (.reg 0 [zf 0 10 2 0, zl 1 11 1 10, zd 2 12 .lss 11 1, zm 3 13 12, yf 4 13 false 14 2 0, yl 5 13 false 15 1 14, yd 6 13 false 16 .gtr 15 9, zp 7 17 13 true 16, zm 8 18 17, yf 9 18 false 19 2 0, yl 10 18 false 20 1 19, yd 11 18 false 21 .eql 20 1, ym 12 18 false 22 21, yf 13 22 false 23 2 0, yl 14 22 false 24 1 23, yd 15 22 false 25 .eql 24 9, yp 16 18 false 26 22 true 25, ym 17 18 false 27 26, yf 18 27 true 28 2 1, yl 19 27 true 29 1 28, yd 20 27 true 30 .lss 29 1, ym 21 27 true 31 30, yf 22 31 false 32 2 1, yl 23 31 false 33 1 32, yd 24 31 false 34 .gtr 33 3, yp 25 27 true 35 31 true 34, yr 26 18 false 36 27 35 false, zp 27 37 18 true 36, .g (.keep [1, 2, 37])]) (.cond (.tmp 37) (.seq (.reg 0 [zk 0 4 43, .g (.keep [4])]) (.ret)) (.skip))) (.seq (.seq (.reg 0 [zL 0 38 10 2, .o 1 (.call (some 39) zbh.id [(.tmp 38)]), .g (.keep [1, 2, 39])]) (.cond (.tmp 39) (.seq (.reg 0 [zk 0 4 48, .g (.keep [4])]) (.ret)) (.skip))) (.seq (.reg 0 [zf 0 40 2 0, zl 1 41 1 40, zd 2 42 .eql 41 1, zm 3 43 42, yf 4 43 false 44 2 0, yl 5 43 false 45 1 44, yd 6 43 false 46 .eql 45 7, zp 7 47 43 true 46, zm 8 5 47, .g (.keep [1, 2, 5])]) (.seq (.seq (.reg 0 [zm 0 48 5, zm 1 49 48, yf 2 49 true 50 2 2, yl 3 49 true 51 1 50, yn 4 49 true 52 51, .gd 5 49 true (some 53) (.call (some 53) zbu.id [(.tmp 52)]), zr 6 54 49 53 false, zm 7 55 54, yf 8 55 false 56 2 0, yl 9 55 false 57 1 56, .gd 10 55 false (some 58) (.call (some 58) zbs.id [(.tmp 57)]), ym 11 55 false 59 58, yf 12 59 true 60 2 7, yl 13 59 true 61 1 60, yn 14 59 true 62 61, .gd 15 59 true (some 63) (.call (some 63) zbu.id [(.tmp 62)]), yr 16 55 false 64 59 63 false, zp 17 65 55 true 64, zm 18 66 65, yf 19 66 false 67 2 0, yl 20 66 false 68 1 67, yd 21 66 false 69 .eql 68 4, ym 22 66 false 70 69, yf 23 70 true 71 2 8, yl 24 70 true 72 1 71, yn 25 70 true 73 72, .gd 26 70 true (some 74) (.call (some 74) zbu.id [(.tmp 73)]), yr 27 66 false 75 70 74 false, zp 28 76 66 true 75, zm 29 77 76, yf 30 77 false 78 2 0, yl 31 77 false 79 1 78, yd 32 77 false 80 .eql 79 8, ym 33 77 false 81 80, yL 34 81 true 82 10 2, .gd 35 81 true (some 83) (.call (some 83) zbv.id [(.tmp 82)]), yq 36 81 true 84 83, yr 37 77 false 85 81 84 false, zp 38 86 77 true 85, .g (.keep [1, 2, 86])]) (.cond (.tmp 86) (.seq (.reg 0 [zk 0 4 47, .g (.keep [4])]) (.ret)) (.skip))) (.seq (.reg 0 [zf 0 87 2 2, zl 1 88 1 87, zm 2 89 1, .o 3 (.call (some 90) za4.id [(.tmp 88), (.tmp 89)]), zm 4 6 90, .g (.keep [1, 2, 6])]) (.seq (.seq (.reg 0 [zL 0 91 10 2, zm 1 92 1, .o 2 (.call (some 93) zbz.id [(.tmp 91), (.tmp 92)]), zq 3 94 93, zm 4 95 94, ym 5 95 false 96 6, yd 6 95 false 97 .eql 96 44, zp 7 98 95 true 97, .g (.keep [2, 6, 98])]) (.cond (.tmp 98) (.seq (.reg 0 [zk 0 4 44, .g (.keep [4])]) (.ret)) (.skip))) (.seq (.seq (.reg 0 [zm 0 99 6, zd 1 100 .neq 99 0, .g (.keep [2, 6, 100])]) (.cond (.tmp 100) (.seq (.reg 0 [zm 0 101 6, zm 1 4 101, .g (.keep [4])]) (.ret)) (.skip))) (.seq (.seq (.reg 0 [zf 0 102 2 3, zl 1 103 1 102, .o 2 (.call (some 104) zbi.id [(.tmp 103)]), zq 3 105 104, zm 4 106 105, yf 5 106 false 107 2 4, yl 6 106 false 108 1 107, .gd 7 106 false (some 109) (.call (some 109) zbi.id [(.tmp 108)]), yq 8 106 false 110 109, zp 9 111 106 true 110, .g (.keep [2, 111])]) (.cond (.tmp 111) (.seq (.reg 0 [zk 0 4 46, .g (.keep [4])]) (.ret)) (.skip))) (.seq (.seq (.reg 0 [zk 0 7 0, .g (.keep [2, 7])]) (.block 0 (.loop zaO.b0))) (.seq (.seq (.reg 0 [zk 0 9 0, .g (.keep [2, 9])]) (.block 4 (.loop zaO.b2))) (.seq (.reg 0 [zk 0 4 0, .g (.keep [4])]) (.ret))))))))))))
def zaO.rs : List Rs := [.sl 4]
theorem zaO.ok : isFn Tryz.prog zaO.id 153 zaO.ann zaO.ir zaO.rs := ⟨Tryz.f33, _, Tryz.func33, rfl, rfl, by kernel_rfl, by kernel_rfl⟩
def zbb.ann : List (Nat × RA) := [(0, rk [0]), (1, rk [0, 3]), (2, rk [0, 3, 7]), (3, rk [0, 3]), (4, rk [0, 3, 15]), (5, rk [2]), (6, rk [2])]
def zbb.b0 : C := .seq (.seq (.reg 0 [zm 0 4 3, zm 1 5 0, zn 2 6 5, za 3 7 .lss 4 6, .g (.keep [0, 3, 7])]) (.cond (.tmp 7) (.skip) (.exit 0))) (.seq (.block 1 (.seq (.reg 0 [zm 0 10 0, zm 1 11 3, zx 2 12 1 10 11, zl 3 13 1 12, .o 4 (.call (some 14) zbi.id [(.tmp 13)]), zq 5 15 14, .g (.keep [0, 3, 15])]) (.cond (.tmp 15) (.seq (.reg 0 [zb 0 2 false, .g (.keep [2])]) (.ret)) (.skip)))) (.reg 0 [zm 0 8 3, zd 1 9 .add 8 1, zm 2 3 9, .g (.keep [0, 3])]))
def zbb.ir : C := .seq (.reg 0 [zb 0 2 false, .g (.keep [0])]) (.seq (.seq (.reg 0 [zk 0 3 0, .g (.keep [0, 3])]) (.block 0 (.loop zbb.b0))) (.seq (.reg 0 [zb 0 2 true, .g (.keep [2])]) (.ret)))
def zbb.rs : List Rs := [.sl 2]
theorem zbb.ok : isFn Tryz.prog zbb.id 16 zbb.ann zbb.ir zbb.rs := ⟨Tryz.f34, _, Tryz.func34, rfl, rfl, by kernel_rfl, by kernel_rfl⟩
def zby.ann : List (Nat × RA) := [(0, rk [0, 1, 2]), (1, rk [6])]
def zby.ir : C := .seq (.reg 0 [zb 0 6 false, .g (.keep [0, 1, 2])]) (.seq (.reg 0 [zm 0 7 0, zd 1 8 .eql 7 1, zm 2 9 8, ym 3 9 true 10 1, ym 4 9 true 11 2, ya 5 9 true 12 .leq 10 11, zr 6 13 9 12 false, zm 7 14 13, ym 8 14 false 15 0, yd 9 14 false 16 .eql 15 2, ym 10 14 false 17 16, ym 11 17 true 18 1, ym 12 17 true 19 2, ya 13 17 true 20 .eql 18 19, yr 14 14 false 21 17 20 false, zp 15 22 14 true 21, zm 16 23 22, ym 17 23 false 24 0, yd 18 23 false 25 .eql 24 3, ym 19 23 false 26 25, ym 20 26 true 27 1, ym 21 26 true 28 2, ya 22 26 true 29 .geq 27 28, yr 23 23 false 30 26 29 false, zp 24 31 23 true 30, zm 25 6 31, .g (.keep [6])]) (.ret))
def zby.rs : List Rs := [.sl 6]
theorem zby.ok : isFn Tryz.prog zby.id 32 zby.ann zby.ir zby.rs := ⟨Tryz.f35, _, Tryz.func35, rfl, rfl, by kernel_rfl, by kernel_rfl⟩
def zbL.ann : List (Nat × RA) := [(0, rk [0, 1]), (1, rk [0, 1, 5]), (2, rk [0, 1, 5, 6]), (3, rk [0, 1, 5, 6, 10]), (4, rk [0, 1, 5, 6]), (5, ro [0, 1, 5, 6] [0, 1, 2, 3, 4, 5, 6, 7, 8, 9, 10, 11, 12, 13, 14, 15, 16]), (6, rk [4])]
def zbL.b0 : C := .seq (.seq (.reg 0 [zm 0 7 6, zm 1 8 0, zn 2 9 8, za 3 10 .lss 7 9, .g (.keep [0, 1, 5, 6, 10])]) (.cond (.tmp 10) (.skip) (.exit 0))) (.seq (.block 1 (.reg 0 [zm 0 13 5, zm 1 14 0, zm 2 15 6, zx 3 16 2 14 15, zf 4 17 16 0, zl 5 18 1 17, zm 6 19 1, zm 7 20 0, zm 8 21 6, zx 9 22 2 20 21, zf 10 23 22 1, zl 11 24 1 23, zx 12 25 1 19 24, zl 13 26 1 25, za 14 27 .mul 18 26, za 15 28 .add 13 27, zm 16 5 28, .g (.keep [0, 1, 5, 6])])) (.reg 0 [zm 0 11 6, zd 1 12 .add 11 1, zm 2 6 12, .g (.keep [0, 1, 5, 6])]))
def zbL.ir : C := .seq (.reg 0 [zk 0 4 0, .g (.keep [0, 1])]) (.seq (.reg 0 [zk 0 5 0, .g (.keep [0, 1, 5])]) (.seq (.seq (.reg 0 [zk 0 6 0, .g (.keep [0, 1, 5, 6])]) (.block 0 (.loop zbL.b0))) (.seq (.reg 0 [zm 0 29 5, zm 1 4 29, .g (.keep [4])]) (.ret))))
def zbL.rs : List Rs := [.sl 4]
theorem zbL.ok : isFn Tryz.prog zbL.id 30 zbL.ann zbL.ir zbL.rs := ⟨Tryz.f36, _, Tryz.func36, rfl, rfl, by kernel_rfl, by kernel_rfl⟩
def zaY.ann : List (Nat × RA) := [(0, rk [0, 1]), (1, rk [0, 1, 5]), (2, rk [0, 1, 5, 10]), (3, rk [0, 1, 5]), (4, rk [0, 1, 5, 6]), (5, rk [0, 1, 5, 6, 15]), (6, rk [0, 1, 5, 6]), (7, ro [0, 1, 5, 6, 32] [0, 1, 2, 3, 4, 5, 6, 7, 8, 9, 10, 11, 12, 13, 14]), (8, rk [4]), (9, rk [4])]
def zaY.b1 : C := .seq (.seq (.reg 0 [zm 0 13 6, zm 1 14 5, za 2 15 .lss 13 14, .g (.keep [0, 1, 5, 6, 15])]) (.cond (.tmp 15) (.skip) (.exit 2))) (.seq (.block 3 (.seq (.reg 0 [zm 0 18 1, zm 1 19 0, zm 2 20 6, zx 3 21 1 19 20, zl 4 22 1 21, zx 5 23 1 18 22, zl 6 24 1 23, zm 7 25 1, zm 8 26 0, zm 9 27 5, zx 10 28 1 26 27, zl 11 29 1 28, zx 12 30 1 25 29, zl 13 31 1 30, za 14 32 .eql 24 31, .g (.keep [0, 1, 5, 6, 32])]) (.cond (.tmp 32) (.seq (.reg 0 [zb 0 4 false, .g (.keep [4])]) (.ret)) (.skip)))) (.reg 0 [zm 0 16 6, zd 1 17 .add 16 1, zm 2 6 17, .g (.keep [0, 1, 5, 6])]))
def zaY.b0 : C := .seq (.seq (.reg 0 [zm 0 7 5, zm 1 8 0, zn 2 9 8, za 3 10 .lss 7 9, .g (.keep [0, 1, 5, 10])]) (.cond (.tmp 10) (.skip) (.exit 0))) (.seq (.block 1 (.seq (.reg 0 [zk 0 6 0, .g (.keep [0, 1, 5, 6])]) (.block 2 (.loop zaY.b1)))) (.reg 0 [zm 0 11 5, zd 1 12 .add 11 1, zm 2 5 12, .g (.keep [0, 1, 5])]))
def zaY.ir : C := .seq (.reg 0 [zb 0 4 false, .g (.keep [0, 1])]) (.seq (.seq (.reg 0 [zk 0 5 0, .g (.keep [0, 1, 5])]) (.block 0 (.loop zaY.b0))) (.seq (.reg 0 [zb 0 4 true, .g (.keep [4])]) (.ret)))
def zaY.rs : List Rs := [.sl 4]
theorem zaY.ok : isFn Tryz.prog zaY.id 33 zaY.ann zaY.ir zaY.rs := ⟨Tryz.f37, _, Tryz.func37, rfl, rfl, by kernel_rfl, by kernel_rfl⟩
def zbF.ann : List (Nat × RA) := [(0, rk [0, 1, 2, 3]), (1, rk [0, 1, 2, 3, 9]), (2, rk [0, 1, 2, 3, 9, 10]), (3, rk [0, 1, 2, 3, 9, 10, 14]), (4, rk [0, 1, 2, 3, 9, 10]), (5, rk [0, 1, 2, 3, 9, 10, 29]), (6, rk [8]), (7, rk [0, 1, 2, 3, 9, 10]), (8, rk [8])]
def zbF.b0 : C := .seq (.seq (.reg 0 [zm 0 11 10, zm 1 12 1, zn 2 13 12, za 3 14 .lss 11 13, .g (.keep [0, 1, 2, 3, 9, 10, 14])]) (.cond (.tmp 14) (.skip) (.exit 0))) (.seq (.block 1 (.seq (.seq (.reg 0 [zm 0 17 3, zm 1 18 2, zm 2 19 1, zm 3 20 10, zx 4 21 1 19 20, zl 5 22 1 21, zx 6 23 1 18 22, zl 7 24 1 23, za 8 25 .mul 17 24, zm 9 26 3, zm 10 27 0, za 11 28 .mul 26 27, za 12 29 .gtr 25 28, .g (.keep [0, 1, 2, 3, 9, 10, 29])]) (.cond (.tmp 29) (.seq (.reg 0 [zb 0 8 false, .g (.keep [8])]) (.ret)) (.skip))) (.reg 0 [zm 0 30 9, zm 1 31 30, ym 2 31 false 32 2, ym 3 31 false 33 1, ym 4 31 false 34 10, yx 5 31 false 35 1 33 34, yl 6 31 false 36 1 35, yx 7 31 false 37 1 32 36, yl 8 31 false 38 1 37, ym 9 31 false 39 0, ya 10 31 false 40 .eql 38 39, zp 11 41 31 true 40, zm 12 9 41, .g (.keep [0, 1, 2, 3, 9, 10])]))) (.reg 0 [zm 0 15 10, zd 1 16 .add 15 1, zm 2 10 16, .g (.keep [0, 1, 2, 3, 9, 10])]))
def zbF.ir : C := .seq (.reg 0 [zb 0 8 false, .g (.keep [0, 1, 2, 3])]) (.seq (.reg 0 [zb 0 9 false, .g (.keep [0, 1, 2, 3, 9])]) (.seq (.seq (.reg 0 [zk 0 10 0, .g (.keep [0, 1, 2, 3, 9, 10])]) (.block 0 (.loop zbF.b0))) (.seq (.reg 0 [zm 0 42 9, zm 1 8 42, .g (.keep [8])]) (.ret))))
def zbF.rs : List Rs := [.sl 8]
theorem zbF.ok : isFn Tryz.prog zbF.id 43 zbF.ann zbF.ir zbF.rs := ⟨Tryz.f38, _, Tryz.func38, rfl, rfl, by kernel_rfl, by kernel_rfl⟩
def zbj.ann : List (Nat × RA) := [(0, rk [1, 2]), (1, rk [1, 2, 5]), (2, rk [1, 2, 5, 10]), (3, rk [1, 2, 5]), (4, ro [1, 2, 5, 21] [0, 1, 2, 3, 4, 5, 6, 7, 8]), (5, rk [4]), (6, rk [4])]
def zbj.b0 : C := .seq (.seq (.reg 0 [zm 0 6 5, zf 1 7 2 9, zl 2 8 1 7, zn 3 9 8, za 4 10 .lss 6 9, .g (.keep [1, 2, 5, 10])]) (.cond (.tmp 10) (.skip) (.exit 0))) (.seq (.block 1 (.seq (.reg 0 [zf 0 13 2 7, zl 1 14 1 13, zf 2 15 2 9, zl 3 16 1 15, zm 4 17 5, zx 5 18 1 16 17, zl 6 19 1 18, zm 7 20 1, .o 8 (.call (some 21) zbS.id [(.tmp 14), (.tmp 19), (.tmp 20)]), .g (.keep [1, 2, 5, 21])]) (.cond (.tmp 21) (.seq (.reg 0 [zb 0 4 true, .g (.keep [4])]) (.ret)) (.skip)))) (.reg 0 [zm 0 11 5, zd 1 12 .add 11 1, zm 2 5 12, .g (.keep [1, 2, 5])]))
def zbj.ir : C := .seq (.reg 1 [.o 0 (.box (some 2) 0 10 (.tmp 0)), zb 1 4 false, .g (.keep [1, 2])]) (.seq (.seq (.reg 0 [zk 0 5 0, .g (.keep [1, 2, 5])]) (.block 0 (.loop zbj.b0))) (.seq (.reg 0 [zb 0 4 false, .g (.keep [4])]) (.ret)))
def zbj.rs : List Rs := [.sl 4]
theorem zbj.ok : isFn Tryz.prog zbj.id 22 zbj.ann zbj.ir zbj.rs := ⟨Tryz.f39, _, Tryz.func39, rfl, rfl, by kernel_rfl, by kernel_rfl⟩
def zba.ann : List (Nat × RA) := [(0, rk [1, 2]), (1, rk [1, 2, 5]), (2, rk [1, 2, 5, 6]), (3, rk [1, 2, 5, 6, 11]), (4, rk [1, 2, 5, 6]), (5, ro [1, 2, 5, 6, 24] [0, 1, 2, 3, 4, 5, 6, 7, 8, 9, 10]), (6, rk [1, 2, 5, 6]), (7, rk [4])]
def zba.b0 : C := .seq (.seq (.reg 0 [zm 0 7 6, zf 1 8 2 7, zl 2 9 1 8, zn 3 10 9, za 4 11 .lss 7 10, .g (.keep [1, 2, 5, 6, 11])]) (.cond (.tmp 11) (.skip) (.exit 0))) (.seq (.block 1 (.seq (.reg 0 [zm 0 14 1, zf 1 15 2 7, zl 2 16 1 15, zm 3 17 6, zx 4 18 1 16 17, zl 5 19 1 18, zx 6 20 1 14 19, zl 7 21 1 20, zf 8 22 2 4, zl 9 23 1 22, za 10 24 .eql 21 23, .g (.keep [1, 2, 5, 6, 24])]) (.cond (.tmp 24) (.reg 0 [zm 0 25 5, zd 1 26 .add 25 1, zm 2 5 26, .g (.keep [1, 2, 5, 6])]) (.skip)))) (.reg 0 [zm 0 12 6, zd 1 13 .add 12 1, zm 2 6 13, .g (.keep [1, 2, 5, 6])]))
def zba.ir : C := .seq (.reg 1 [.o 0 (.box (some 2) 0 10 (.tmp 0)), zb 1 4 false, .g (.keep [1, 2])]) (.seq (.reg 0 [zk 0 5 0, .g (.keep [1, 2, 5])]) (.seq (.seq (.reg 0 [zk 0 6 0, .g (.keep [1, 2, 5, 6])]) (.block 0 (.loop zba.b0))) (.seq (.reg 0 [zf 0 27 2 1, zl 1 28 1 27, zm 2 29 5, zf 3 30 2 3, zl 4 31 1 30, .o 5 (.call (some 32) zby.id [(.tmp 28), (.tmp 29), (.tmp 31)]), zm 6 4 32, .g (.keep [4])]) (.ret))))
def zba.rs : List Rs := [.sl 4]
theorem zba.ok : isFn Tryz.prog zba.id 33 zba.ann zba.ir zba.rs := ⟨Tryz.f40, _, Tryz.func40, rfl, rfl, by kernel_rfl, by kernel_rfl⟩
def zcu.ann : List (Nat × RA) := [(0, rk [2, 3]), (1, ro [2, 3, 5, 6] [1, 2, 0, 3, 4, 5, 6, 7, 8, 9]), (2, rk [2, 3, 5, 32]), (3, rk [4]), (4, rk [2, 3, 5, 7, 8]), (5, rk [2, 5, 7, 8, 9]), (6, rk [2, 5, 7, 8, 9, 41]), (7, rk [4]), (8, rk [2, 5, 7, 8, 9, 45]), (9, rk [2, 5, 7, 8, 9, 45]), (10, rk [2, 5, 7, 8, 9, 45]), (11, rk [2, 5, 7, 8, 9, 45]), (12, rk [4]), (13, rk [2, 5, 8, 9, 70]), (14, rp [2, 5, 8, 9, 70] [(6, [1000001])]), (15, rp [2, 8, 9, 70] [(6, [1000001])]), (16, rp [2, 8, 70] [(3, [1000001])]), (17, rk [4]), (18, rk [2, 92]), (19, rk [4]), (20, rk [2, 94]), (21, rk [2, 94]), (22, rk [2, 94]), (23, rp [94] [(2, [1000001])]), (24, rk [4]), (25, rk [4])]
def zcu.ir : C := .seq (.reg 2 [.o 0 (.box (some 2) 0 10 (.tmp 0)), .o 1 (.box (some 3) 1 1 (.tmp 1)), zk 2 4 0, .g (.keep [2, 3])]) (.seq (.reg 1 [zf 1 12 2 0, zl 2 13 1 12, .o 0 (.call (some 11) zcx.id []), .o 3 (.lt (some 14) (.lkp true .i64 (.agg [.a (.bool false), .a (.bool false), .a (.bool false), .a (.bool false), .a (.bool false), .a (.bool false), .a (.bool false), .a (.bool false), .a (.bool false), .a (.nilFunc)]) (.tmp 11) (.tmp 13))), zm 4 10 14, ze 5 15 10 0, ze 6 16 10 1, .o 7 (.alloc (some 5) 0 10 [.a (.bool false), .a (.bool false), .a (.bool false), .a (.bool false), .a (.bool false), .a (.bool false), .a (.bool false), .a (.bool false), .a (.bool false), .a (.nilFunc)]), .o 8 (.store [] 10 (.tmp 5) (.tmp 15)), zm 9 6 16, .g (.keep [2, 3, 5, 6])]) (.seq (.seq (.reg 0 [zm 0 17 6, zq 1 18 17, zm 2 19 18, yf 3 19 false 20 5 7, yl 4 19 false 21 1 20, ym 5 19 false 22 21, yf 6 22 true 23 2 1, yl 7 22 true 24 1 23, yd 8 22 true 25 .lss 24 1, ym 9 22 true 26 25, yf 10 26 false 27 2 1, yl 11 26 false 28 1 27, yd 12 26 false 29 .gtr 28 3, yp 13 22 true 30 26 true 29, yr 14 19 false 31 22 30 false, zp 15 32 19 true 31, .g (.keep [2, 3, 5, 32])]) (.cond (.tmp 32) (.seq (.reg 0 [zk 0 4 43, .g (.keep [4])]) (.ret)) (.skip))) (.seq (.reg 0 [zf 0 34 2 2, zl 1 35 1 34, zl 2 36 1 3, .o 3 (.call (some 37) zcm.id [(.tmp 35), (.tmp 36)]), zm 4 33 37, ze 5 38 33 0, ze 6 39 33 1, zm 7 7 38, zm 8 8 39, .g (.keep [2, 3, 5, 7, 8])]) (.seq (.reg 0 [.o 0 (.lt (some 40) (.mkfn (.func zcs.id) [] [(.tmp 3)])), zm 1 9 40, .g (.keep [2, 5, 7, 8, 9])]) (.seq (.block 0 (.seq (.reg 0 [zL 0 42 10 2, zL 1 43 10 5, .o 2 (.call (some 44) zcH.id [(.tmp 42), (.tmp 43)]), zm 3 41 44, .g (.keep [2, 5, 7, 8, 9, 41])]) (.cond (.tmp 41) (.seq (.reg 0 [zk 0 4 48, .g (.keep [4])]) (.ret)) (.seq (.seq (.reg 0 [zf 0 46 5 0, zl 1 47 1 46, zf 2 48 2 2, zl 3 49 1 48, zn 4 50 49, .o 5 (.call (some 51) zcb.id [(.tmp 47), (.tmp 50)]), zq 6 52 51, zm 7 45 52, .g (.keep [2, 5, 7, 8, 9, 45])]) (.cond (.tmp 45) (.skip) (.seq (.reg 0 [zf 0 53 5 1, zl 1 54 1 53, zf 2 55 2 7, zl 3 56 1 55, zn 4 57 56, .o 5 (.call (some 58) zcb.id [(.tmp 54), (.tmp 57)]), zq 6 59 58, zm 7 45 59, .g (.keep [2, 5, 7, 8, 9, 45])]) (.cond (.tmp 45) (.skip) (.seq (.reg 0 [zf 0 60 5 2, zl 1 61 1 60, zf 2 62 2 8, zl 3 63 1 62, zn 4 64 63, .o 5 (.call (some 65) zcb.id [(.tmp 61), (.tmp 64)]), zq 6 66 65, zm 7 45 66, .g (.keep [2, 5, 7, 8, 9, 45])]) (.cond (.tmp 45) (.skip) (.reg 0 [zL 0 67 10 2, zL 1 68 10 5, .o 2 (.call (some 69) zcO.id [(.tmp 67), (.tmp 68)]), zm 3 45 69, .g (.keep [2, 5, 7, 8, 9, 45])]))))))) (.cond (.tmp 45) (.seq (.reg 0 [zk 0 4 47, .g (.keep [4])]) (.ret)) (.seq (.seq (.reg 0 [zm 0 71 7, zm 1 70 71, .g (.keep [2, 5, 8, 9, 70])]) (.cond (.tmp 70) (.skip) (.seq (.reg 0 [zf 0 72 5 4, zl 1 73 1 72, zm 2 74 73, ym 3 74 true 75 9, yf 4 74 true 76 2 5, yl 5 74 true 77 1 76, .gd 6 74 true (some 78) (.callb (some 78) (.tmp 75) [(.tmp 77)]), zr 7 79 74 78 false, zm 8 70 79, .g (.keep [2, 5, 8, 9, 70])]) (.cond (.tmp 70) (.skip) (.seq (.reg 0 [zf 0 80 5 5, zl 1 81 1 80, zm 2 82 81, ym 3 82 true 83 9, yf 4 82 true 84 2 6, yl 5 82 true 85 1 84, .gd 6 82 true (some 86) (.callb (some 86) (.tmp 83) [(.tmp 85)]), zr 7 87 82 86 false, zm 8 70 87, .g (.keep [2, 8, 9, 70])]) (.cond (.tmp 70) (.skip) (.reg 0 [zf 0 88 2 7, zl 1 89 1 88, zm 2 90 9, .o 3 (.callb (some 91) (.func zaR.id) [(.tmp 89), (.tmp 90)]), zm 4 70 91, .g (.keep [2, 8, 70])]))))))) (.cond (.tmp 70) (.seq (.reg 0 [zk 0 4 44, .g (.keep [4])]) (.ret)) (.seq (.reg 0 [zm 0 93 8, zm 1 92 93, .g (.keep [2, 92])]) (.cond (.tmp 92) (.seq (.reg 0 [zk 0 4 45, .g (.keep [4])]) (.ret)) (.seq (.seq (.reg 0 [zf 0 95 2 3, zl 1 96 1 95, .o 2 (.call (some 97) zb7.id [(.tmp 96), (.const (.int .i64 1000000000))]), zq 3 98 97, zm 4 94 98, .g (.keep [2, 94])]) (.cond (.tmp 94) (.skip) (.seq (.reg 0 [zf 0 99 2 4, zl 1 100 1 99, .o 2 (.call (some 101) zb7.id [(.tmp 100), (.const (.int .i64 1000000000))]), zq 3 102 101, zm 4 94 102, .g (.keep [2, 94])]) (.cond (.tmp 94) (.skip) (.seq (.reg 0 [zf 0 103 2 8, zl 1 104 1 103, .o 2 (.call (some 105) zcw.id [(.tmp 104)]), zm 3 94 105, .g (.keep [2, 94])]) (.cond (.tmp 94) (.skip) (.reg 0 [zf 0 106 2 9, zl 1 107 1 106, .o 2 (.callb (some 108) (.func zaI.id) [(.tmp 107), (.func zcw.id)]), zm 3 94 108, .g (.keep [94])]))))))) (.cond (.tmp 94) (.seq (.reg 0 [zk 0 4 46, .g (.keep [4])]) (.ret)) (.skip)))))))))))) (.seq (.reg 0 [zk 0 4 0, .g (.keep [4])]) (.ret)))))))
def zcu.rs : List Rs := [.sl 4]
theorem zcu.ok : isFn Tryz.prog zcu.id 109 zcu.ann zcu.ir zcu.rs := ⟨Tryz.f41, _, Tryz.func41, rfl, rfl, by kernel_rfl, by kernel_rfl⟩
def zcB.ann : List (Nat × RA) := [(0, rk [0]), (1, rk [2])]
def zcB.ir : C := .seq (.reg 0 [zb 0 2 false, .g (.keep [0])]) (.seq (.reg 0 [zm 0 3 0, .o 1 (.call (some 4) zcw.id [(.tmp 3)]), zq 2 5 4, zm 3 2 5, .g (.keep [2])]) (.ret))
def zcB.rs : List Rs := [.sl 2]
theorem zcB.ok : isFn Tryz.prog zcB.id 6 zcB.ann zcB.ir zcB.rs := ⟨Tryz.f42, _, Tryz.func42, rfl, rfl, by kernel_rfl, by kernel_rfl⟩
def zcx.ann : List (Nat × RA) := [(0, rk []), (1, rk [0])]
def zcx.ir : C := .seq (.reg 0 [.o 0 (.lt (some 0) (.mov (.const (.map none)))), .g (.keep [])]) (.seq (.reg 1 [.o 0 (.mkm (some 1) 0), .o 1 (.lt (some 2) (.build [.a (.bool false), .a (.bool false), .a (.bool false), .a (.bool false), .a (.bool false), .a (.bool false), .a (.bool false), .a (.bool false), .a (.bool false), .a (.nilFunc)] [(0, 1, (.const (.bool true))), (6, 1, (.const (.bool true))), (7, 1, (.const (.bool true))), (9, 1, (.func zcQ.id))])), .o 2 (.mup [] .i64 (.tmp 1) (.const (.int .i64 1)) (.tmp 2)), .o 3 (.lt (some 3) (.build [.a (.bool false), .a (.bool false), .a (.bool false), .a (.bool false), .a (.bool false), .a (.bool false), .a (.bool false), .a (.bool false), .a (.bool false), .a (.nilFunc)] [(4, 1, (.const (.bool true))), (5, 1, (.const (.bool true))), (6, 1, (.const (.bool true))), (9, 1, (.func zcj.id))])), .o 4 (.mup [] .i64 (.tmp 1) (.const (.int .i64 2)) (.tmp 3)), .o 5 (.lt (some 4) (.build [.a (.bool false), .a (.bool false), .a (.bool false), .a (.bool false), .a (.bool false), .a (.bool false), .a (.bool false), .a (.bool false), .a (.bool false), .a (.nilFunc)] [(1, 1, (.const (.bool true))), (9, 1, (.func zch.id))])), .o 6 (.mup [] .i64 (.tmp 1) (.const (.int .i64 3)) (.tmp 4)), .o 7 (.lt (some 5) (.build [.a (.bool false), .a (.bool false), .a (.bool false), .a (.bool false), .a (.bool false), .a (.bool false), .a (.bool false), .a (.bool false), .a (.bool false), .a (.nilFunc)] [(4, 1, (.const (.bool true))), (5, 1, (.const (.bool true))), (2, 1, (.const (.bool true))), (9, 1, (.func zci.id))])), .o 8 (.mup [] .i64 (.tmp 1) (.const (.int .i64 4)) (.tmp 5)), .o 9 (.lt (some 6) (.build [.a (.bool false), .a (.bool false), .a (.bool false), .a (.bool false), .a (.bool false), .a (.bool false), .a (.bool false), .a (.bool false), .a (.bool false), .a (.nilFunc)] [(5, 1, (.const (.bool true))), (1, 1, (.const (.bool true))), (9, 1, (.func zck.id))])), .o 10 (.mup [] .i64 (.tmp 1) (.const (.int .i64 5)) (.tmp 6)), .o 11 (.lt (some 7) (.build [.a (.bool false), .a (.bool false), .a (.bool false), .a (.bool false), .a (.bool false), .a (.bool false), .a (.bool false), .a (.bool false), .a (.bool false), .a (.nilFunc)] [(5, 1, (.const (.bool true))), (1, 1, (.const (.bool true))), (9, 1, (.func zcl.id))])), .o 12 (.mup [] .i64 (.tmp 1) (.const (.int .i64 6)) (.tmp 7)), .o 13 (.lt (some 8) (.build [.a (.bool false), .a (.bool false), .a (.bool false), .a (.bool false), .a (.bool false), .a (.bool false), .a (.bool false), .a (.bool false), .a (.bool false), .a (.nilFunc)] [(4, 1, (.const (.bool true))), (0, 1, (.const (.bool true))), (6, 1, (.const (.bool true))), (9, 1, (.func zcK.id))])), .o 14 (.mup [] .i64 (.tmp 1) (.const (.int .i64 7)) (.tmp 8)), .o 15 (.lt (some 9) (.build [.a (.bool false), .a (.bool false), .a (.bool false), .a (.bool false), .a (.bool false), .a (.bool false), .a (.bool false), .a (.bool false), .a (.bool false), .a (.nilFunc)] [(1, 1, (.const (.bool true))), (3, 1, (.const (.bool true))), (9, 1, (.func zcC.id))])), .o 16 (.mup [] .i64 (.tmp 1) (.const (.int .i64 8)) (.tmp 9)), .o 17 (.lt (some 10) (.build [.a (.bool false), .a (.bool false), .a (.bool false), .a (.bool false), .a (.bool false), .a (.bool false), .a (.bool false), .a (.bool false), .a (.bool false), .a (.nilFunc)] [(1, 1, (.const (.bool true))), (6, 1, (.const (.bool true))), (7, 1, (.const (.bool true))), (8, 1, (.const (.bool true))), (9, 1, (.func zcd.id))])), .o 18 (.mup [] .i64 (.tmp 1) (.const (.int .i64 9)) (.tmp 10)), zm 19 11 1, zm 20 0 11, .g (.keep [0])]) (.ret))
def zcx.rs : List Rs := [.sl 0]
theorem zcx.ok : isFn Tryz.prog zcx.id 12 zcx.ann zcx.ir zcx.rs := ⟨Tryz.f43, _, Tryz.func43, rfl, rfl, by kernel_rfl, by kernel_rfl⟩
def zb9.ann : List (Nat × RA) := [(0, rk [0, 1]), (1, rk [3])]
def zb9.ir : C := .seq (.reg 0 [zk 0 3 0, .g (.keep [0, 1])]) (.seq (.reg 0 [zl 0 4 1 1, zm 1 5 0, zx 2 6 1 4 5, zl 3 7 1 6, zm 4 3 7, .g (.keep [3])]) (.ret))
def zb9.rs : List Rs := [.sl 3]
theorem zb9.ok : isFn Tryz.prog zb9.id 8 zb9.ann zb9.ir zb9.rs := ⟨Tryz.f44, _, Tryz.func44, rfl, rfl, by kernel_rfl, by kernel_rfl⟩
def za6.ann : List (Nat × RA) := [(0, rk [0, 1]), (1, rk [0, 1, 10]), (2, rk [4]), (3, rk [0, 1, 5]), (4, rk [0, 1, 5, 14]), (5, rk [0, 1, 5]), (6, ro [0, 1, 5, 25] [0, 1, 2, 3, 4, 5, 6, 7, 8]), (7, rk [4]), (8, rk [4])]
def za6.b0 : C := .seq (.seq (.reg 0 [zm 0 11 5, zm 1 12 0, zn 2 13 12, za 3 14 .lss 11 13, .g (.keep [0, 1, 5, 14])]) (.cond (.tmp 14) (.skip) (.exit 0))) (.seq (.block 1 (.seq (.reg 0 [zm 0 17 0, zm 1 18 5, zx 2 19 2 17 18, zL 3 20 2 19, zm 4 21 1, zm 5 22 5, zx 6 23 2 21 22, zL 7 24 2 23, .o 8 (.lt (some 25) (.eqD true [(0, 0), (1, 0)] (.tmp 20) (.tmp 24))), .g (.keep [0, 1, 5, 25])]) (.cond (.tmp 25) (.seq (.reg 0 [zb 0 4 false, .g (.keep [4])]) (.ret)) (.skip)))) (.reg 0 [zm 0 15 5, zd 1 16 .add 15 1, zm 2 5 16, .g (.keep [0, 1, 5])]))
def za6.ir : C := .seq (.reg 0 [zb 0 4 false, .g (.keep [0, 1])]) (.seq (.seq (.reg 0 [zm 0 6 0, zn 1 7 6, zm 2 8 1, zn 3 9 8, za 4 10 .neq 7 9, .g (.keep [0, 1, 10])]) (.cond (.tmp 10) (.seq (.reg 0 [zb 0 4 false, .g (.keep [4])]) (.ret)) (.skip))) (.seq (.seq (.reg 0 [zk 0 5 0, .g (.keep [0, 1, 5])]) (.block 0 (.loop za6.b0))) (.seq (.reg 0 [zb 0 4 true, .g (.keep [4])]) (.ret))))
def za6.rs : List Rs := [.sl 4]
theorem za6.ok : isFn Tryz.prog za6.id 26 za6.ann za6.ir za6.rs := ⟨Tryz.f45, _, Tryz.func45, rfl, rfl, by kernel_rfl, by kernel_rfl⟩
def zbw.ann : List (Nat × RA) := [(0, rk [2, 3]), (1, rk [4])]
def zbw.ir : C := .seq (.reg 2 [.o 0 (.box (some 2) 0 10 (.tmp 0)), .o 1 (.box (some 3) 1 10 (.tmp 1)), zb 2 4 false, .g (.keep [2, 3])]) (.seq (.reg 0 [zf 0 5 2 4, zl 1 6 1 5, zf 2 7 3 4, zl 3 8 1 7, za 4 9 .eql 6 8, zm 5 10 9, yf 6 10 true 11 2 9, yl 7 10 true 12 1 11, yf 8 10 true 13 3 9, yl 9 10 true 14 1 13, .gd 10 10 true (some 15) (.call (some 15) zbe.id [(.tmp 12), (.tmp 14)]), zr 11 16 10 15 false, zm 12 17 16, yf 13 17 true 18 2 0, yl 14 17 true 19 1 18, yf 15 17 true 20 3 0, yl 16 17 true 21 1 20, ya 17 17 true 22 .eql 19 21, zr 18 23 17 22 false, zm 19 24 23, yf 20 24 true 25 2 1, yl 21 24 true 26 1 25, yf 22 24 true 27 3 1, yl 23 24 true 28 1 27, ya 24 24 true 29 .eql 26 28, zr 25 30 24 29 false, zm 26 31 30, yf 27 31 true 32 2 3, yl 28 31 true 33 1 32, yf 29 31 true 34 3 3, yl 30 31 true 35 1 34, ya 31 31 true 36 .eql 33 35, zr 32 37 31 36 false, zm 33 38 37, yf 34 38 true 39 2 5, yl 35 38 true 40 1 39, yf 36 38 true 41 3 5, yl 37 38 true 42 1 41, ya 38 38 true 43 .eql 40 42, zr 39 44 38 43 false, zm 40 45 44, yf 41 45 true 46 2 6, yl 42 45 true 47 1 46, yf 43 45 true 48 3 6, yl 44 45 true 49 1 48, ya 45 45 true 50 .eql 47 49, zr 46 51 45 50 false, zm 47 52 51, yf 48 52 true 53 2 2, yl 49 52 true 54 1 53, yf 50 52 true 55 3 2, yl 51 52 true 56 1 55, .gd 52 52 true (some 57) (.call (some 57) za6.id [(.tmp 54), (.tmp 56)]), zr 53 58 52 57 false, zm 54 59 58, yf 55 59 true 60 2 7, yl 56 59 true 61 1 60, yf 57 59 true 62 3 7, yl 58 59 true 63 1 62, .gd 59 59 true (some 64) (.call (some 64) za7.id [(.tmp 61), (.tmp 63)]), zr 60 65 59 64 false, zm 61 66 65, yf 62 66 true 67 2 8, yl 63 66 true 68 1 67, yf 64 66 true 69 3 8, yl 65 66 true 70 1 69, .gd 66 66 true (some 71) (.call (some 71) za7.id [(.tmp 68), (.tmp 70)]), zr 67 72 66 71 false, zm 68 4 72, .g (.keep [4])]) (.ret))
def zbw.rs : List Rs := [.sl 4]
theorem zbw.ok : isFn Tryz.prog zbw.id 73 zbw.ann zbw.ir zbw.rs := ⟨Tryz.f46, _, Tryz.func46, rfl, rfl, by kernel_rfl, by kernel_rfl⟩
def zaz.ann : List (Nat × RA) := [(0, rk [0]), (1, rk [0, 3]), (2, rk [0, 3, 13]), (3, rk [0, 3]), (4, rk [0, 3, 4]), (5, rk [0, 3, 4, 5]), (6, rk [0, 3, 4, 5, 33]), (7, rk [0, 3, 4, 5]), (8, rk [0, 3, 4, 5, 6]), (9, rk [0, 3, 4, 5, 51]), (10, rk [2]), (11, rk [2])]
def zaz.b1 : C := .seq (.seq (.reg 0 [zm 0 24 5, zm 1 25 0, zc 2 26 25, zf 3 27 26 0, zl 4 28 1 27, zm 5 29 3, zx 6 30 1 28 29, zl 7 31 1 30, zn 8 32 31, za 9 33 .lss 24 32, .g (.keep [0, 3, 4, 5, 33])]) (.cond (.tmp 33) (.skip) (.exit 2))) (.seq (.block 3 (.seq (.reg 0 [zm 0 36 0, zc 1 37 36, zf 2 38 37 0, zl 3 39 1 38, zm 4 40 3, zx 5 41 1 39 40, zl 6 42 1 41, zm 7 43 5, zx 8 44 1 42 43, zl 9 45 1 44, zm 10 6 45, .g (.keep [0, 3, 4, 5, 6])]) (.seq (.reg 0 [zm 0 46 6, zm 1 47 5, zm 2 48 4, za 3 49 .sub 47 48, .o 4 (.call (some 50) zaZ.id [(.tmp 49)]), za 5 51 .neq 46 50, .g (.keep [0, 3, 4, 5, 51])]) (.cond (.tmp 51) (.seq (.reg 0 [zb 0 2 false, .g (.keep [2])]) (.ret)) (.skip))))) (.reg 0 [zm 0 34 5, zd 1 35 .add 34 1, zm 2 5 35, .g (.keep [0, 3, 4, 5])]))
def zaz.b0 : C := .seq (.seq (.reg 0 [zm 0 7 3, zm 1 8 0, zc 2 9 8, zf 3 10 9 0, zl 4 11 1 10, zn 5 12 11, za 6 13 .lss 7 12, .g (.keep [0, 3, 13])]) (.cond (.tmp 13) (.skip) (.exit 0))) (.seq (.block 1 (.seq (.reg 0 [zm 0 16 0, zc 1 17 16, zf 2 18 17 1, zl 3 19 1 18, zm 4 20 3, zx 5 21 1 19 20, zl 6 22 1 21, zm 7 4 22, .g (.keep [0, 3, 4])]) (.seq (.reg 0 [zm 0 23 4, zm 1 5 23, .g (.keep [0, 3, 4, 5])]) (.block 2 (.loop zaz.b1))))) (.reg 0 [zm 0 14 3, zd 1 15 .add 14 1, zm 2 3 15, .g (.keep [0, 3])]))
def zaz.ir : C := .seq (.reg 0 [zb 0 2 false, .g (.keep [0])]) (.seq (.seq (.reg 0 [zk 0 3 0, .g (.keep [0, 3])]) (.block 0 (.loop zaz.b0))) (.seq (.reg 0 [zb 0 2 true, .g (.keep [2])]) (.ret)))
def zaz.rs : List Rs := [.sl 2]
theorem zaz.ok : isFn Tryz.prog zaz.id 52 zaz.ann zaz.ir zaz.rs := ⟨Tryz.f47, _, Tryz.func47, rfl, rfl, by kernel_rfl, by kernel_rfl⟩
def zaG.ann : List (Nat × RA) := [(0, rk [0]), (1, rk [0, 3]), (2, rk [0, 3, 13]), (3, rk [0, 3]), (4, rk [0, 3, 4]), (5, rk [0, 3, 4, 5]), (6, rk [0, 3, 4, 5, 33]), (7, rk [0, 3, 4, 5]), (8, rk [0, 3, 4, 5, 6]), (9, rk [0, 3, 4, 5, 51]), (10, rk [2]), (11, rk [2])]
def zaG.b1 : C := .seq (.seq (.reg 0 [zm 0 24 5, zm 1 25 0, zc 2 26 25, zf 3 27 26 2, zl 4 28 1 27, zm 5 29 3, zx 6 30 1 28 29, zl 7 31 1 30, zn 8 32 31, za 9 33 .lss 24 32, .g (.keep [0, 3, 4, 5, 33])]) (.cond (.tmp 33) (.skip) (.exit 2))) (.seq (.block 3 (.seq (.reg 0 [zm 0 36 0, zc 1 37 36, zf 2 38 37 2, zl 3 39 1 38, zm 4 40 3, zx 5 41 1 39 40, zl 6 42 1 41, zm 7 43 5, zx 8 44 1 42 43, zl 9 45 1 44, zm 10 6 45, .g (.keep [0, 3, 4, 5, 6])]) (.seq (.reg 0 [zm 0 46 6, zm 1 47 5, zm 2 48 4, za 3 49 .sub 47 48, .o 4 (.call (some 50) zc5.id [(.tmp 49)]), za 5 51 .neq 46 50, .g (.keep [0, 3, 4, 5, 51])]) (.cond (.tmp 51) (.seq (.reg 0 [zb 0 2 false, .g (.keep [2])]) (.ret)) (.skip))))) (.reg 0 [zm 0 34 5, zd 1 35 .add 34 1, zm 2 5 35, .g (.keep [0, 3, 4, 5])]))
def zaG.b0 : C := .seq (.seq (.reg 0 [zm 0 7 3, zm 1 8 0, zc 2 9 8, zf 3 10 9 2, zl 4 11 1 10, zn 5 12 11, za 6 13 .lss 7 12, .g (.keep [0, 3, 13])]) (.cond (.tmp 13) (.skip) (.exit 0))) (.seq (.block 1 (.seq (.reg 0 [zm 0 16 0, zc 1 17 16, zf 2 18 17 3, zl 3 19 1 18, zm 4 20 3, zx 5 21 1 19 20, zl 6 22 1 21, zm 7 4 22, .g (.keep [0, 3, 4])]) (.seq (.reg 0 [zm 0 23 4, zm 1 5 23, .g (.keep [0, 3, 4, 5])]) (.block 2 (.loop zaG.b1))))) (.reg 0 [zm 0 14 3, zd 1 15 .add 14 1, zm 2 3 15, .g (.keep [0, 3])]))
def zaG.ir : C := .seq (.reg 0 [zb 0 2 false, .g (.keep [0])]) (.seq (.seq (.reg 0 [zk 0 3 0, .g (.keep [0, 3])]) (.block 0 (.loop zaG.b0))) (.seq (.reg 0 [zb 0 2 true, .g (.keep [2])]) (.ret)))
def zaG.rs : List Rs := [.sl 2]
theorem zaG.ok : isFn Tryz.prog zaG.id 52 zaG.ann zaG.ir zaG.rs := ⟨Tryz.f48, _, Tryz.func48, rfl, rfl, by kernel_rfl, by kernel_rfl⟩
def zas.ann : List (Nat × RA) := [(0, rk [0]), (1, rk [0, 3]), (2, rk [0, 3, 13]), (3, rk [0, 3]), (4, rk [0, 3, 4]), (5, rk [0, 3, 4, 5]), (6, rk [0, 3, 4, 5, 33]), (7, rk [0, 3, 4, 5]), (8, rk [0, 3, 4, 5, 6]), (9, ro [0, 3, 4, 5, 52] [0, 1, 2, 3, 4, 5, 6]), (10, rk [2]), (11, rk [2])]
def zas.b1 : C := .seq (.seq (.reg 0 [zm 0 24 5, zm 1 25 0, zc 2 26 25, zf 3 27 26 4, zl 4 28 1 27, zm 5 29 3, zx 6 30 1 28 29, zl 7 31 1 30, zn 8 32 31, za 9 33 .lss 24 32, .g (.keep [0, 3, 4, 5, 33])]) (.cond (.tmp 33) (.skip) (.exit 2))) (.seq (.block 3 (.seq (.reg 1 [zm 0 36 0, zc 1 37 36, zf 2 38 37 4, zl 3 39 1 38, zm 4 40 3, zx 5 41 1 39 40, zl 6 42 1 41, zm 7 43 5, zx 8 44 2 42 43, zL 9 45 2 44, .o 10 (.alloc (some 6) 0 2 [.a (.int .i64 0), .a (.int .i64 0)]), .o 11 (.store [] 2 (.tmp 6) (.tmp 45)), .g (.keep [0, 3, 4, 5, 6])]) (.seq (.reg 0 [zL 0 46 2 6, zm 1 47 5, zm 2 48 4, za 3 49 .sub 47 48, .o 4 (.call (some 50) zaZ.id [(.tmp 49)]), .o 5 (.lt (some 51) (.build [.a (.int .i64 0), .a (.int .i64 0)] [(0, 1, (.tmp 50))])), .o 6 (.lt (some 52) (.eqD true [(0, 0), (1, 0)] (.tmp 46) (.tmp 51))), .g (.keep [0, 3, 4, 5, 52])]) (.cond (.tmp 52) (.seq (.reg 0 [zb 0 2 false, .g (.keep [2])]) (.ret)) (.skip))))) (.reg 0 [zm 0 34 5, zd 1 35 .add 34 1, zm 2 5 35, .g (.keep [0, 3, 4, 5])]))
def zas.b0 : C := .seq (.seq (.reg 0 [zm 0 7 3, zm 1 8 0, zc 2 9 8, zf 3 10 9 4, zl 4 11 1 10, zn 5 12 11, za 6 13 .lss 7 12, .g (.keep [0, 3, 13])]) (.cond (.tmp 13) (.skip) (.exit 0))) (.seq (.block 1 (.seq (.reg 0 [zm 0 16 0, zc 1 17 16, zf 2 18 17 5, zl 3 19 1 18, zm 4 20 3, zx 5 21 1 19 20, zl 6 22 1 21, zm 7 4 22, .g (.keep [0, 3, 4])]) (.seq (.reg 0 [zm 0 23 4, zm 1 5 23, .g (.keep [0, 3, 4, 5])]) (.block 2 (.loop zas.b1))))) (.reg 0 [zm 0 14 3, zd 1 15 .add 14 1, zm 2 3 15, .g (.keep [0, 3])]))
def zas.ir : C := .seq (.reg 0 [zb 0 2 false, .g (.keep [0])]) (.seq (.seq (.reg 0 [zk 0 3 0, .g (.keep [0, 3])]) (.block 0 (.loop zas.b0))) (.seq (.reg 0 [zb 0 2 true, .g (.keep [2])]) (.ret)))
def zas.rs : List Rs := [.sl 2]
theorem zas.ok : isFn Tryz.prog zas.id 53 zas.ann zas.ir zas.rs := ⟨Tryz.f49, _, Tryz.func49, rfl, rfl, by kernel_rfl, by kernel_rfl⟩
def zaA.ann : List (Nat × RA) := [(0, rk [0]), (1, rk [0, 3]), (2, rk [0, 3, 13]), (3, rk [0, 3]), (4, rk [0, 3, 4]), (5, rk [0, 3, 4, 5]), (6, rk [0, 3, 4, 5, 33]), (7, rk [0, 3, 4, 5]), (8, rk [0, 3, 4, 5, 6]), (9, ro [0, 3, 4, 5, 52] [0, 1, 2, 3, 4, 5, 6]), (10, rk [2]), (11, rk [2])]
def zaA.b1 : C := .seq (.seq (.reg 0 [zm 0 24 5, zm 1 25 0, zc 2 26 25, zf 3 27 26 6, zl 4 28 1 27, zm 5 29 3, zx 6 30 1 28 29, zl 7 31 1 30, zn 8 32 31, za 9 33 .lss 24 32, .g (.keep [0, 3, 4, 5, 33])]) (.cond (.tmp 33) (.skip) (.exit 2))) (.seq (.block 3 (.seq (.reg 1 [zm 0 36 0, zc 1 37 36, zf 2 38 37 6, zl 3 39 1 38, zm 4 40 3, zx 5 41 1 39 40, zl 6 42 1 41, zm 7 43 5, zx 8 44 3 42 43, zL 9 45 3 44, .o 10 (.alloc (some 6) 0 3 [.a (.string ⟨#[]⟩), .a (.int .i64 0), .a (.int .i64 0)]), .o 11 (.store [] 3 (.tmp 6) (.tmp 45)), .g (.keep [0, 3, 4, 5, 6])]) (.seq (.reg 0 [zL 0 46 3 6, zm 1 47 5, zm 2 48 4, za 3 49 .sub 47 48, .o 4 (.call (some 50) zaZ.id [(.tmp 49)]), .o 5 (.lt (some 51) (.build [.a (.string ⟨#[]⟩), .a (.int .i64 0), .a (.int .i64 0)] [(1, 1, (.tmp 50))])), .o 6 (.lt (some 52) (.eqD true [(0, 1), (1, 0), (2, 0)] (.tmp 46) (.tmp 51))), .g (.keep [0, 3, 4, 5, 52])]) (.cond (.tmp 52) (.seq (.reg 0 [zb 0 2 false, .g (.keep [2])]) (.ret)) (.skip))))) (.reg 0 [zm 0 34 5, zd 1 35 .add 34 1, zm 2 5 35, .g (.keep [0, 3, 4, 5])]))
def zaA.b0 : C := .seq (.seq (.reg 0 [zm 0 7 3, zm 1 8 0, zc 2 9 8, zf 3 10 9 6, zl 4 11 1 10, zn 5 12 11, za 6 13 .lss 7 12, .g (.keep [0, 3, 13])]) (.cond (.tmp 13) (.skip) (.exit 0))) (.seq (.block 1 (.seq (.reg 0 [zm 0 16 0, zc 1 17 16, zf 2 18 17 7, zl 3 19 1 18, zm 4 20 3, zx 5 21 1 19 20, zl 6 22 1 21, zm 7 4 22, .g (.keep [0, 3, 4])]) (.seq (.reg 0 [zm 0 23 4, zm 1 5 23, .g (.keep [0, 3, 4, 5])]) (.block 2 (.loop zaA.b1))))) (.reg 0 [zm 0 14 3, zd 1 15 .add 14 1, zm 2 3 15, .g (.keep [0, 3])]))
def zaA.ir : C := .seq (.reg 0 [zb 0 2 false, .g (.keep [0])]) (.seq (.seq (.reg 0 [zk 0 3 0, .g (.keep [0, 3])]) (.block 0 (.loop zaA.b0))) (.seq (.reg 0 [zb 0 2 true, .g (.keep [2])]) (.ret)))
def zaA.rs : List Rs := [.sl 2]
theorem zaA.ok : isFn Tryz.prog zaA.id 53 zaA.ann zaA.ir zaA.rs := ⟨Tryz.f50, _, Tryz.func50, rfl, rfl, by kernel_rfl, by kernel_rfl⟩
def zaw.ann : List (Nat × RA) := [(0, rk [0]), (1, rk [0, 3]), (2, rk [0, 3, 13]), (3, rk [0, 3]), (4, rk [0, 3, 4]), (5, rk [0, 3, 4, 5]), (6, rk [0, 3, 4, 5, 33]), (7, rk [0, 3, 4, 5]), (8, rk [0, 3, 4, 5, 6]), (9, ro [0, 3, 4, 5, 52] [0, 1, 2, 3, 4, 5, 6]), (10, rk [2]), (11, rk [2])]
def zaw.b1 : C := .seq (.seq (.reg 0 [zm 0 24 5, zm 1 25 0, zc 2 26 25, zf 3 27 26 8, zl 4 28 1 27, zm 5 29 3, zx 6 30 1 28 29, zl 7 31 1 30, zn 8 32 31, za 9 33 .lss 24 32, .g (.keep [0, 3, 4, 5, 33])]) (.cond (.tmp 33) (.skip) (.exit 2))) (.seq (.block 3 (.seq (.reg 1 [zm 0 36 0, zc 1 37 36, zf 2 38 37 8, zl 3 39 1 38, zm 4 40 3, zx 5 41 1 39 40, zl 6 42 1 41, zm 7 43 5, zx 8 44 2 42 43, zL 9 45 2 44, .o 10 (.alloc (some 6) 0 2 [.a (.string ⟨#[]⟩), .a (.int .i64 0)]), .o 11 (.store [] 2 (.tmp 6) (.tmp 45)), .g (.keep [0, 3, 4, 5, 6])]) (.seq (.reg 0 [zL 0 46 2 6, zm 1 47 5, zm 2 48 4, za 3 49 .sub 47 48, .o 4 (.call (some 50) zaZ.id [(.tmp 49)]), .o 5 (.lt (some 51) (.build [.a (.string ⟨#[]⟩), .a (.int .i64 0)] [(1, 1, (.tmp 50))])), .o 6 (.lt (some 52) (.eqD true [(0, 1), (1, 0)] (.tmp 46) (.tmp 51))), .g (.keep [0, 3, 4, 5, 52])]) (.cond (.tmp 52) (.seq (.reg 0 [zb 0 2 false, .g (.keep [2])]) (.ret)) (.skip))))) (.reg 0 [zm 0 34 5, zd 1 35 .add 34 1, zm 2 5 35, .g (.keep [0, 3, 4, 5])]))
def zaw.b0 : C := .seq (.seq (.reg 0 [zm 0 7 3, zm 1 8 0, zc 2 9 8, zf 3 10 9 8, zl 4 11 1 10, zn 5 12 11, za 6 13 .lss 7 12, .g (.keep [0, 3, 13])]) (.cond (.tmp 13) (.skip) (.exit 0))) (.seq (.block 1 (.seq (.reg 0 [zm 0 16 0, zc 1 17 16, zf 2 18 17 9, zl 3 19 1 18, zm 4 20 3, zx 5 21 1 19 20, zl 6 22 1 21, zm 7 4 22, .g (.keep [0, 3, 4])]) (.seq (.reg 0 [zm 0 23 4, zm 1 5 23, .g (.keep [0, 3, 4, 5])]) (.block 2 (.loop zaw.b1))))) (.reg 0 [zm 0 14 3, zd 1 15 .add 14 1, zm 2 3 15, .g (.keep [0, 3])]))
def zaw.ir : C := .seq (.reg 0 [zb 0 2 false, .g (.keep [0])]) (.seq (.seq (.reg 0 [zk 0 3 0, .g (.keep [0, 3])]) (.block 0 (.loop zaw.b0))) (.seq (.reg 0 [zb 0 2 true, .g (.keep [2])]) (.ret)))
def zaw.rs : List Rs := [.sl 2]
theorem zaw.ok : isFn Tryz.prog zaw.id 53 zaw.ann zaw.ir zaw.rs := ⟨Tryz.f51, _, Tryz.func51, rfl, rfl, by kernel_rfl, by kernel_rfl⟩
def zaT.ann : List (Nat × RA) := [(0, rk [0]), (1, rk [0, 3]), (2, rk [0, 3, 13]), (3, rk [0, 3]), (4, rk [0, 3, 4]), (5, rk [0, 3, 4, 5]), (6, rk [0, 3, 4, 5, 33]), (7, rk [0, 3, 4, 5]), (8, rk [0, 3, 4, 5, 6]), (9, ro [0, 3, 4, 5, 52] [0, 1, 2, 3, 4, 5, 6]), (10, rk [2]), (11, rk [2])]
def zaT.b1 : C := .seq (.seq (.reg 0 [zm 0 24 5, zm 1 25 0, zc 2 26 25, zf 3 27 26 10, zl 4 28 1 27, zm 5 29 3, zx 6 30 1 28 29, zl 7 31 1 30, zn 8 32 31, za 9 33 .lss 24 32, .g (.keep [0, 3, 4, 5, 33])]) (.cond (.tmp 33) (.skip) (.exit 2))) (.seq (.block 3 (.seq (.reg 1 [zm 0 36 0, zc 1 37 36, zf 2 38 37 10, zl 3 39 1 38, zm 4 40 3, zx 5 41 1 39 40, zl 6 42 1 41, zm 7 43 5, zx 8 44 3 42 43, zL 9 45 3 44, .o 10 (.alloc (some 6) 0 3 [.a (.int .i64 0), .a (.string ⟨#[]⟩), .a (.int .i64 0)]), .o 11 (.store [] 3 (.tmp 6) (.tmp 45)), .g (.keep [0, 3, 4, 5, 6])]) (.seq (.reg 0 [zL 0 46 3 6, zm 1 47 5, zm 2 48 4, za 3 49 .sub 47 48, .o 4 (.call (some 50) zaZ.id [(.tmp 49)]), .o 5 (.lt (some 51) (.build [.a (.int .i64 0), .a (.string ⟨#[]⟩), .a (.int .i64 0)] [(2, 1, (.tmp 50))])), .o 6 (.lt (some 52) (.eqD true [(0, 0), (1, 1), (2, 0)] (.tmp 46) (.tmp 51))), .g (.keep [0, 3, 4, 5, 52])]) (.cond (.tmp 52) (.seq (.reg 0 [zb 0 2 false, .g (.keep [2])]) (.ret)) (.skip))))) (.reg 0 [zm 0 34 5, zd 1 35 .add 34 1, zm 2 5 35, .g (.keep [0, 3, 4, 5])]))
def zaT.b0 : C := .seq (.seq (.reg 0 [zm 0 7 3, zm 1 8 0, zc 2 9 8, zf 3 10 9 10, zl 4 11 1 10, zn 5 12 11, za 6 13 .lss 7 12, .g (.keep [0, 3, 13])]) (.cond (.tmp 13) (.skip) (.exit 0))) (.seq (.block 1 (.seq (.reg 0 [zm 0 16 0, zc 1 17 16, zf 2 18 17 11, zl 3 19 1 18, zm 4 20 3, zx 5 21 1 19 20, zl 6 22 1 21, zm 7 4 22, .g (.keep [0, 3, 4])]) (.seq (.reg 0 [zm 0 23 4, zm 1 5 23, .g (.keep [0, 3, 4, 5])]) (.block 2 (.loop zaT.b1))))) (.reg 0 [zm 0 14 3, zd 1 15 .add 14 1, zm 2 3 15, .g (.keep [0, 3])]))
def zaT.ir : C := .seq (.reg 0 [zb 0 2 false, .g (.keep [0])]) (.seq (.seq (.reg 0 [zk 0 3 0, .g (.keep [0, 3])]) (.block 0 (.loop zaT.b0))) (.seq (.reg 0 [zb 0 2 true, .g (.keep [2])]) (.ret)))
def zaT.rs : List Rs := [.sl 2]
theorem zaT.ok : isFn Tryz.prog zaT.id 53 zaT.ann zaT.ir zaT.rs := ⟨Tryz.f52, _, Tryz.func52, rfl, rfl, by kernel_rfl, by kernel_rfl⟩
def zaL.ann : List (Nat × RA) := [(0, rk [0]), (1, rk [0, 3]), (2, rk [0, 3, 13]), (3, rk [0, 3]), (4, rk [0, 3, 4]), (5, rk [0, 3, 4, 5]), (6, rk [0, 3, 4, 5, 33]), (7, rk [0, 3, 4, 5]), (8, rk [0, 3, 4, 5, 6]), (9, ro [0, 3, 4, 5, 52] [0, 1, 2, 3, 4, 5, 6]), (10, rk [2]), (11, rk [2])]
def zaL.b1 : C := .seq (.seq (.reg 0 [zm 0 24 5, zm 1 25 0, zc 2 26 25, zf 3 27 26 12, zl 4 28 1 27, zm 5 29 3, zx 6 30 1 28 29, zl 7 31 1 30, zn 8 32 31, za 9 33 .lss 24 32, .g (.keep [0, 3, 4, 5, 33])]) (.cond (.tmp 33) (.skip) (.exit 2))) (.seq (.block 3 (.seq (.reg 1 [zm 0 36 0, zc 1 37 36, zf 2 38 37 12, zl 3 39 1 38, zm 4 40 3, zx 5 41 1 39 40, zl 6 42 1 41, zm 7 43 5, zx 8 44 3 42 43, zL 9 45 3 44, .o 10 (.alloc (some 6) 0 3 [.a (.int .i64 0), .a (.int .i64 0), .a (.int .i64 0)]), .o 11 (.store [] 3 (.tmp 6) (.tmp 45)), .g (.keep [0, 3, 4, 5, 6])]) (.seq (.reg 0 [zL 0 46 3 6, zm 1 47 5, zm 2 48 4, za 3 49 .sub 47 48, .o 4 (.call (some 50) zaZ.id [(.tmp 49)]), .o 5 (.lt (some 51) (.build [.a (.int .i64 0), .a (.int .i64 0), .a (.int .i64 0)] [(2, 1, (.tmp 50))])), .o 6 (.lt (some 52) (.eqD true [(0, 0), (1, 0), (2, 0)] (.tmp 46) (.tmp 51))), .g (.keep [0, 3, 4, 5, 52])]) (.cond (.tmp 52) (.seq (.reg 0 [zb 0 2 false, .g (.keep [2])]) (.ret)) (.skip))))) (.reg 0 [zm 0 34 5, zd 1 35 .add 34 1, zm 2 5 35, .g (.keep [0, 3, 4, 5])]))
def zaL.b0 : C := .seq (.seq (.reg 0 [zm 0 7 3, zm 1 8 0, zc 2 9 8, zf 3 10 9 12, zl 4 11 1 10, zn 5 12 11, za 6 13 .lss 7 12, .g (.keep [0, 3, 13])]) (.cond (.tmp 13) (.skip) (.exit 0))) (.seq (.block 1 (.seq (.reg 0 [zm 0 16 0, zc 1 17 16, zf 2 18 17 13, zl 3 19 1 18, zm 4 20 3, zx 5 21 1 19 20, zl 6 22 1 21, zm 7 4 22, .g (.keep [0, 3, 4])]) (.seq (.reg 0 [zm 0 23 4, zm 1 5 23, .g (.keep [0, 3, 4, 5])]) (.block 2 (.loop zaL.b1))))) (.reg 0 [zm 0 14 3, zd 1 15 .add 14 1, zm 2 3 15, .g (.keep [0, 3])]))
def zaL.ir : C := .seq (.reg 0 [zb 0 2 false, .g (.keep [0])]) (.seq (.seq (.reg 0 [zk 0 3 0, .g (.keep [0, 3])]) (.block 0 (.loop zaL.b0))) (.seq (.reg 0 [zb 0 2 true, .g (.keep [2])]) (.ret)))
def zaL.rs : List Rs := [.sl 2]
theorem zaL.ok : isFn Tryz.prog zaL.id 53 zaL.ann zaL.ir zaL.rs := ⟨Tryz.f53, _, Tryz.func53, rfl, rfl, by kernel_rfl, by kernel_rfl⟩
def zaE.ann : List (Nat × RA) := [(0, rk [0]), (1, rk [0, 3]), (2, rk [0, 3, 13]), (3, rk [0, 3]), (4, rk [0, 3, 4]), (5, rk [0, 3, 4, 5]), (6, rk [0, 3, 4, 5, 33]), (7, rk [0, 3, 4, 5]), (8, rk [0, 3, 4, 5, 6]), (9, ro [0, 3, 4, 5, 52] [0, 1, 2, 3, 4, 5, 6]), (10, rk [2]), (11, rk [2])]
def zaE.b1 : C := .seq (.seq (.reg 0 [zm 0 24 5, zm 1 25 0, zc 2 26 25, zf 3 27 26 14, zl 4 28 1 27, zm 5 29 3, zx 6 30 1 28 29, zl 7 31 1 30, zn 8 32 31, za 9 33 .lss 24 32, .g (.keep [0, 3, 4, 5, 33])]) (.cond (.tmp 33) (.skip) (.exit 2))) (.seq (.block 3 (.seq (.reg 1 [zm 0 36 0, zc 1 37 36, zf 2 38 37 14, zl 3 39 1 38, zm 4 40 3, zx 5 41 1 39 40, zl 6 42 1 41, zm 7 43 5, zx 8 44 6 42 43, zL 9 45 6 44, .o 10 (.alloc (some 6) 0 6 [.a (.int .i64 0), .a (.int .i64 0), .a (.bool false), .a (.int .i64 0), .a (.int .i64 0), .a (.bool false)]), .o 11 (.store [] 6 (.tmp 6) (.tmp 45)), .g (.keep [0, 3, 4, 5, 6])]) (.seq (.reg 0 [zL 0 46 6 6, zm 1 47 5, zm 2 48 4, za 3 49 .sub 47 48, .o 4 (.call (some 50) zaZ.id [(.tmp 49)]), .o 5 (.lt (some 51) (.build [.a (.int .i64 0), .a (.int .i64 0), .a (.bool false), .a (.int .i64 0), .a (.int .i64 0), .a (.bool false)] [(1, 1, (.tmp 50))])), .o 6 (.lt (some 52) (.eqD true [(0, 0), (1, 0), (2, 2), (3, 0), (4, 0), (5, 2)] (.tmp 46) (.tmp 51))), .g (.keep [0, 3, 4, 5, 52])]) (.cond (.tmp 52) (.seq (.reg 0 [zb 0 2 false, .g (.keep [2])]) (.ret)) (.skip))))) (.reg 0 [zm 0 34 5, zd 1 35 .add 34 1, zm 2 5 35, .g (.keep [0, 3, 4, 5])]))
def zaE.b0 : C := .seq (.seq (.reg 0 [zm 0 7 3, zm 1 8 0, zc 2 9 8, zf 3 10 9 14, zl 4 11 1 10, zn 5 12 11, za 6 13 .lss 7 12, .g (.keep [0, 3, 13])]) (.cond (.tmp 13) (.skip) (.exit 0))) (.seq (.block 1 (.seq (.reg 0 [zm 0 16 0, zc 1 17 16, zf 2 18 17 15, zl 3 19 1 18, zm 4 20 3, zx 5 21 1 19 20, zl 6 22 1 21, zm 7 4 22, .g (.keep [0, 3, 4])]) (.seq (.reg 0 [zm 0 23 4, zm 1 5 23, .g (.keep [0, 3, 4, 5])]) (.block 2 (.loop zaE.b1))))) (.reg 0 [zm 0 14 3, zd 1 15 .add 14 1, zm 2 3 15, .g (.keep [0, 3])]))
def zaE.ir : C := .seq (.reg 0 [zb 0 2 false, .g (.keep [0])]) (.seq (.seq (.reg 0 [zk 0 3 0, .g (.keep [0, 3])]) (.block 0 (.loop zaE.b0))) (.seq (.reg 0 [zb 0 2 true, .g (.keep [2])]) (.ret)))
def zaE.rs : List Rs := [.sl 2]
theorem zaE.ok : isFn Tryz.prog zaE.id 53 zaE.ann zaE.ir zaE.rs := ⟨Tryz.f54, _, Tryz.func54, rfl, rfl, by kernel_rfl, by kernel_rfl⟩
def zar.ann : List (Nat × RA) := [(0, rk [0]), (1, rk [0, 3]), (2, rk [0, 3, 13]), (3, rk [0, 3]), (4, rk [0, 3, 4]), (5, rk [0, 3, 4, 5]), (6, rk [0, 3, 4, 5, 33]), (7, rk [0, 3, 4, 5]), (8, rk [0, 3, 4, 5, 6]), (9, ro [0, 3, 4, 5, 58] [0, 1, 2, 3, 4, 5, 6, 7, 8, 9, 10, 11, 12]), (10, rk [2]), (11, rk [2])]
def zar.b1 : C := .seq (.seq (.reg 0 [zm 0 24 5, zm 1 25 0, zc 2 26 25, zf 3 27 26 16, zl 4 28 1 27, zm 5 29 3, zx 6 30 1 28 29, zl 7 31 1 30, zn 8 32 31, za 9 33 .lss 24 32, .g (.keep [0, 3, 4, 5, 33])]) (.cond (.tmp 33) (.skip) (.exit 2))) (.seq (.block 3 (.seq (.reg 0 [zm 0 36 0, zc 1 37 36, zf 2 38 37 16, zl 3 39 1 38, zm 4 40 3, zx 5 41 1 39 40, zl 6 42 1 41, zm 7 43 5, zx 8 44 1 42 43, zl 9 45 1 44, zm 10 6 45, .g (.keep [0, 3, 4, 5, 6])]) (.seq (.reg 0 [zm 0 46 6, zn 1 47 46, zd 2 48 .neq 47 1, zm 3 49 48, ym 4 49 false 50 6, .gd 5 49 false (some 51) (.lt (some 51) (.ixS 1 (.tmp 50) (.const (.int .i64 0)))), yl 6 49 false 52 1 51, ym 7 49 false 53 5, ym 8 49 false 54 4, ya 9 49 false 55 .sub 53 54, .gd 10 49 false (some 56) (.call (some 56) zaZ.id [(.tmp 55)]), ya 11 49 false 57 .neq 52 56, zp 12 58 49 true 57, .g (.keep [0, 3, 4, 5, 58])]) (.cond (.tmp 58) (.seq (.reg 0 [zb 0 2 false, .g (.keep [2])]) (.ret)) (.skip))))) (.reg 0 [zm 0 34 5, zd 1 35 .add 34 1, zm 2 5 35, .g (.keep [0, 3, 4, 5])]))
def zar.b0 : C := .seq (.seq (.reg 0 [zm 0 7 3, zm 1 8 0, zc 2 9 8, zf 3 10 9 16, zl 4 11 1 10, zn 5 12 11, za 6 13 .lss 7 12, .g (.keep [0, 3, 13])]) (.cond (.tmp 13) (.skip) (.exit 0))) (.seq (.block 1 (.seq (.reg 0 [zm 0 16 0, zc 1 17 16, zf 2 18 17 17, zl 3 19 1 18, zm 4 20 3, zx 5 21 1 19 20, zl 6 22 1 21, zm 7 4 22, .g (.keep [0, 3, 4])]) (.seq (.reg 0 [zm 0 23 4, zm 1 5 23, .g (.keep [0, 3, 4, 5])]) (.block 2 (.loop zar.b1))))) (.reg 0 [zm 0 14 3, zd 1 15 .add 14 1, zm 2 3 15, .g (.keep [0, 3])]))
def zar.ir : C := .seq (.reg 0 [zb 0 2 false, .g (.keep [0])]) (.seq (.seq (.reg 0 [zk 0 3 0, .g (.keep [0, 3])]) (.block 0 (.loop zar.b0))) (.seq (.reg 0 [zb 0 2 true, .g (.keep [2])]) (.ret)))
def zar.rs : List Rs := [.sl 2]
theorem zar.ok : isFn Tryz.prog zar.id 59 zar.ann zar.ir zar.rs := ⟨Tryz.f55, _, Tryz.func55, rfl, rfl, by kernel_rfl, by kernel_rfl⟩
def zay.ann : List (Nat × RA) := [(0, rk [0]), (1, rk [0, 3]), (2, rk [0, 3, 13]), (3, rk [0, 3]), (4, rk [0, 3, 4]), (5, rk [0, 3, 4, 5]), (6, rk [0, 3, 4, 5, 33]), (7, rk [0, 3, 4, 5]), (8, rk [0, 3, 4, 5, 6]), (9, ro [0, 3, 4, 5, 71] [0, 1, 2, 3, 4, 5, 6, 7, 8, 9, 10, 11, 12, 13, 14, 15, 16, 17, 18, 19, 20, 21, 22, 23, 24, 25]), (10, rk [2]), (11, rk [2])]
def zay.b1 : C := .seq (.seq (.reg 0 [zm 0 24 5, zm 1 25 0, zc 2 26 25, zf 3 27 26 18, zl 4 28 1 27, zm 5 29 3, zx 6 30 1 28 29, zl 7 31 1 30, zn 8 32 31, za 9 33 .lss 24 32, .g (.keep [0, 3, 4, 5, 33])]) (.cond (.tmp 33) (.skip) (.exit 2))) (.seq (.block 3 (.seq (.reg 1 [zm 0 36 0, zc 1 37 36, zf 2 38 37 18, zl 3 39 1 38, zm 4 40 3, zx 5 41 1 39 40, zl 6 42 1 41, zm 7 43 5, zx 8 44 10 42 43, zL 9 45 10 44, .o 10 (.alloc (some 6) 0 10 [.a (.int .i64 0), .a (.int .i64 0), .a (.slice none 0 0), .a (.int .i64 0), .a (.int .i64 0), .a (.int .i64 0), .a (.int .i64 0), .a (.slice none 0 0), .a (.slice none 0 0), .a (.slice none 0 0)]), .o 11 (.store [] 10 (.tmp 6) (.tmp 45)), .g (.keep [0, 3, 4, 5, 6])]) (.seq (.reg 0 [zf 0 46 6 5, zl 1 47 1 46, zm 2 48 5, zm 3 49 4, za 4 50 .sub 48 49, .o 5 (.call (some 51) zaZ.id [(.tmp 50)]), za 6 52 .neq 47 51, zm 7 53 52, yf 8 53 false 54 6 0, yl 9 53 false 55 1 54, yd 10 53 false 56 .neq 55 0, zp 11 57 53 true 56, zm 12 58 57, yf 13 58 false 59 6 2, yl 14 58 false 60 1 59, yn 15 58 false 61 60, yf 16 58 false 62 6 7, yl 17 58 false 63 1 62, yn 18 58 false 64 63, ya 19 58 false 65 .add 61 64, yf 20 58 false 66 6 8, yl 21 58 false 67 1 66, yn 22 58 false 68 67, ya 23 58 false 69 .add 65 68, yd 24 58 false 70 .neq 69 0, zp 25 71 58 true 70, .g (.keep [0, 3, 4, 5, 71])]) (.cond (.tmp 71) (.seq (.reg 0 [zb 0 2 false, .g (.keep [2])]) (.ret)) (.skip))))) (.reg 0 [zm 0 34 5, zd 1 35 .add 34 1, zm 2 5 35, .g (.keep [0, 3, 4, 5])]))
def zay.b0 : C := .seq (.seq (.reg 0 [zm 0 7 3, zm 1 8 0, zc 2 9 8, zf 3 10 9 18, zl 4 11 1 10, zn 5 12 11, za 6 13 .lss 7 12, .g (.keep [0, 3, 13])]) (.cond (.tmp 13) (.skip) (.exit 0))) (.seq (.block 1 (.seq (.reg 0 [zm 0 16 0, zc 1 17 16, zf 2 18 17 19, zl 3 19 1 18, zm 4 20 3, zx 5 21 1 19 20, zl 6 22 1 21, zm 7 4 22, .g (.keep [0, 3, 4])]) (.seq (.reg 0 [zm 0 23 4, zm 1 5 23, .g (.keep [0, 3, 4, 5])]) (.block 2 (.loop zay.b1))))) (.reg 0 [zm 0 14 3, zd 1 15 .add 14 1, zm 2 3 15, .g (.keep [0, 3])]))
def zay.ir : C := .seq (.reg 0 [zb 0 2 false, .g (.keep [0])]) (.seq (.seq (.reg 0 [zk 0 3 0, .g (.keep [0, 3])]) (.block 0 (.loop zay.b0))) (.seq (.reg 0 [zb 0 2 true, .g (.keep [2])]) (.ret)))
def zay.rs : List Rs := [.sl 2]
theorem zay.ok : isFn Tryz.prog zay.id 72 zay.ann zay.ir zay.rs := ⟨Tryz.f56, _, Tryz.func56, rfl, rfl, by kernel_rfl, by kernel_rfl⟩
def zaM.ann : List (Nat × RA) := [(0, rk [0]), (1, rk [0, 3]), (2, rk [0, 3, 13]), (3, rk [0, 3]), (4, rk [0, 3, 4]), (5, rk [0, 3, 4, 5]), (6, rk [0, 3, 4, 5, 33]), (7, rk [0, 3, 4, 5]), (8, rk [0, 3, 4, 5, 6]), (9, ro [0, 3, 4, 5, 58] [0, 1, 2, 3, 4, 5, 6, 7, 8, 9, 10, 11, 12]), (10, rk [2]), (11, rk [2])]
def zaM.b1 : C := .seq (.seq (.reg 0 [zm 0 24 5, zm 1 25 0, zc 2 26 25, zf 3 27 26 20, zl 4 28 1 27, zm 5 29 3, zx 6 30 1 28 29, zl 7 31 1 30, zn 8 32 31, za 9 33 .lss 24 32, .g (.keep [0, 3, 4, 5, 33])]) (.cond (.tmp 33) (.skip) (.exit 2))) (.seq (.block 3 (.seq (.reg 1 [zm 0 36 0, zc 1 37 36, zf 2 38 37 20, zl 3 39 1 38, zm 4 40 3, zx 5 41 1 39 40, zl 6 42 1 41, zm 7 43 5, zx 8 44 2 42 43, zL 9 45 2 44, .o 10 (.alloc (some 6) 0 2 [.a (.slice none 0 0), .a (.string ⟨#[]⟩)]), .o 11 (.store [] 2 (.tmp 6) (.tmp 45)), .g (.keep [0, 3, 4, 5, 6])]) (.seq (.reg 0 [zf 0 46 6 1, zl 1 47 1 46, zm 2 48 5, zm 3 49 4, za 4 50 .sub 48 49, .o 5 (.call (some 51) zc5.id [(.tmp 50)]), za 6 52 .neq 47 51, zm 7 53 52, yf 8 53 false 54 6 0, yl 9 53 false 55 1 54, yn 10 53 false 56 55, yd 11 53 false 57 .neq 56 0, zp 12 58 53 true 57, .g (.keep [0, 3, 4, 5, 58])]) (.cond (.tmp 58) (.seq (.reg 0 [zb 0 2 false, .g (.keep [2])]) (.ret)) (.skip))))) (.reg 0 [zm 0 34 5, zd 1 35 .add 34 1, zm 2 5 35, .g (.keep [0, 3, 4, 5])]))
def zaM.b0 : C := .seq (.seq (.reg 0 [zm 0 7 3, zm 1 8 0, zc 2 9 8, zf 3 10 9 20, zl 4 11 1 10, zn 5 12 11, za 6 13 .lss 7 12, .g (.keep [0, 3, 13])]) (.cond (.tmp 13) (.skip) (.exit 0))) (.seq (.block 1 (.seq (.reg 0 [zm 0 16 0, zc 1 17 16, zf 2 18 17 21, zl 3 19 1 18, zm 4 20 3, zx 5 21 1 19 20, zl 6 22 1 21, zm 7 4 22, .g (.keep [0, 3, 4])]) (.seq (.reg 0 [zm 0 23 4, zm 1 5 23, .g (.keep [0, 3, 4, 5])]) (.block 2 (.loop zaM.b1))))) (.reg 0 [zm 0 14 3, zd 1 15 .add 14 1, zm 2 3 15, .g (.keep [0, 3])]))
def zaM.ir : C := .seq (.reg 0 [zb 0 2 false, .g (.keep [0])]) (.seq (.seq (.reg 0 [zk 0 3 0, .g (.keep [0, 3])]) (.block 0 (.loop zaM.b0))) (.seq (.reg 0 [zb 0 2 true, .g (.keep [2])]) (.ret)))
def zaM.rs : List Rs := [.sl 2]
theorem zaM.ok : isFn Tryz.prog zaM.id 59 zaM.ann zaM.ir zaM.rs := ⟨Tryz.f57, _, Tryz.func57, rfl, rfl, by kernel_rfl, by kernel_rfl⟩
def zaF.ann : List (Nat × RA) := [(0, rk [0]), (1, rk [0, 3]), (2, rk [0, 3, 13]), (3, rk [0, 3]), (4, rk [0, 3, 4]), (5, rk [0, 3, 4, 5]), (6, rk [0, 3, 4, 5, 33]), (7, rk [0, 3, 4, 5]), (8, rk [0, 3, 4, 5, 6]), (9, ro [0, 3, 4, 5, 57] [0, 1, 2, 3, 4, 5, 6, 7, 8, 9, 10, 11]), (10, rk [2]), (11, rk [2])]
def zaF.b1 : C := .seq (.seq (.reg 0 [zm 0 24 5, zm 1 25 0, zc 2 26 25, zf 3 27 26 22, zl 4 28 1 27, zm 5 29 3, zx 6 30 1 28 29, zl 7 31 1 30, zn 8 32 31, za 9 33 .lss 24 32, .g (.keep [0, 3, 4, 5, 33])]) (.cond (.tmp 33) (.skip) (.exit 2))) (.seq (.block 3 (.seq (.reg 1 [zm 0 36 0, zc 1 37 36, zf 2 38 37 22, zl 3 39 1 38, zm 4 40 3, zx 5 41 1 39 40, zl 6 42 1 41, zm 7 43 5, zx 8 44 10 42 43, zL 9 45 10 44, .o 10 (.alloc (some 6) 0 10 [.a (.int .i64 0), .a (.string ⟨#[]⟩), .a (.slice none 0 0), .a (.slice none 0 0), .a (.string ⟨#[]⟩), .a (.slice none 0 0), .a (.slice none 0 0), .a (.int .i64 0), .a (.string ⟨#[]⟩), .a (.string ⟨#[]⟩)]), .o 11 (.store [] 10 (.tmp 6) (.tmp 45)), .g (.keep [0, 3, 4, 5, 6])]) (.seq (.reg 0 [zf 0 46 6 7, zl 1 47 1 46, zm 2 48 5, zm 3 49 4, za 4 50 .sub 48 49, .o 5 (.call (some 51) zaZ.id [(.tmp 50)]), za 6 52 .neq 47 51, zm 7 53 52, yf 8 53 false 54 6 0, yl 9 53 false 55 1 54, yd 10 53 false 56 .neq 55 0, zp 11 57 53 true 56, .g (.keep [0, 3, 4, 5, 57])]) (.cond (.tmp 57) (.seq (.reg 0 [zb 0 2 false, .g (.keep [2])]) (.ret)) (.skip))))) (.reg 0 [zm 0 34 5, zd 1 35 .add 34 1, zm 2 5 35, .g (.keep [0, 3, 4, 5])]))
def zaF.b0 : C := .seq (.seq (.reg 0 [zm 0 7 3, zm 1 8 0, zc 2 9 8, zf 3 10 9 22, zl 4 11 1 10, zn 5 12 11, za 6 13 .lss 7 12, .g (.keep [0, 3, 13])]) (.cond (.tmp 13) (.skip) (.exit 0))) (.seq (.block 1 (.seq (.reg 0 [zm 0 16 0, zc 1 17 16, zf 2 18 17 23, zl 3 19 1 18, zm 4 20 3, zx 5 21 1 19 20, zl 6 22 1 21, zm 7 4 22, .g (.keep [0, 3, 4])]) (.seq (.reg 0 [zm 0 23 4, zm 1 5 23, .g (.keep [0, 3, 4, 5])]) (.block 2 (.loop zaF.b1))))) (.reg 0 [zm 0 14 3, zd 1 15 .add 14 1, zm 2 3 15, .g (.keep [0, 3])]))
def zaF.ir : C := .seq (.reg 0 [zb 0 2 false, .g (.keep [0])]) (.seq (.seq (.reg 0 [zk 0 3 0, .g (.keep [0, 3])]) (.block 0 (.loop zaF.b0))) (.seq (.reg 0 [zb 0 2 true, .g (.keep [2])]) (.ret)))
def zaF.rs : List Rs := [.sl 2]
theorem zaF.ok : isFn Tryz.prog zaF.id 58 zaF.ann zaF.ir zaF.rs := ⟨Tryz.f58, _, Tryz.func58, rfl, rfl, by kernel_rfl, by kernel_rfl⟩
def zav.ann : List (Nat × RA) := [(0, rk [0]), (1, rk [0, 3]), (2, rk [0, 3, 13]), (3, rk [0, 3]), (4, rk [0, 3, 4]), (5, rk [0, 3, 4, 5]), (6, rk [0, 3, 4, 5, 33]), (7, rk [0, 3, 4, 5]), (8, rk [0, 3, 4, 5, 6]), (9, ro [0, 3, 4, 5, 59] [0, 1, 2, 3, 4, 5, 6, 7, 8, 9, 10, 11, 12, 13]), (10, rk [2]), (11, rk [2])]
def zav.b1 : C := .seq (.seq (.reg 0 [zm 0 24 5, zm 1 25 0, zc 2 26 25, zf 3 27 26 24, zl 4 28 1 27, zm 5 29 3, zx 6 30 1 28 29, zl 7 31 1 30, zn 8 32 31, za 9 33 .lss 24 32, .g (.keep [0, 3, 4, 5, 33])]) (.cond (.tmp 33) (.skip) (.exit 2))) (.seq (.block 3 (.seq (.reg 1 [zm 0 36 0, zc 1 37 36, zf 2 38 37 24, zl 3 39 1 38, zm 4 40 3, zx 5 41 1 39 40, zl 6 42 1 41, zm 7 43 5, zx 8 44 7 42 43, zL 9 45 7 44, .o 10 (.alloc (some 6) 0 7 [.a (.int .i64 0), .a (.int .i64 0), .a (.int .i64 0), .a (.int .i64 0), .a (.int .i64 0), .a (.int .i64 0), .a (.slice none 0 0)]), .o 11 (.store [] 7 (.tmp 6) (.tmp 45)), .g (.keep [0, 3, 4, 5, 6])]) (.seq (.reg 0 [zf 0 46 6 0, zl 1 47 1 46, zm 2 48 5, zm 3 49 4, za 4 50 .sub 48 49, .o 5 (.call (some 51) zaZ.id [(.tmp 50)]), za 6 52 .neq 47 51, zm 7 53 52, yf 8 53 false 54 6 4, yf 9 53 false 55 54 2, yl 10 53 false 56 1 55, yn 11 53 false 57 56, yd 12 53 false 58 .neq 57 0, zp 13 59 53 true 58, .g (.keep [0, 3, 4, 5, 59])]) (.cond (.tmp 59) (.seq (.reg 0 [zb 0 2 false, .g (.keep [2])]) (.ret)) (.skip))))) (.reg 0 [zm 0 34 5, zd 1 35 .add 34 1, zm 2 5 35, .g (.keep [0, 3, 4, 5])]))
def zav.b0 : C := .seq (.seq (.reg 0 [zm 0 7 3, zm 1 8 0, zc 2 9 8, zf 3 10 9 24, zl 4 11 1 10, zn 5 12 11, za 6 13 .lss 7 12, .g (.keep [0, 3, 13])]) (.cond (.tmp 13) (.skip) (.exit 0))) (.seq (.block 1 (.seq (.reg 0 [zm 0 16 0, zc 1 17 16, zf 2 18 17 25, zl 3 19 1 18, zm 4 20 3, zx 5 21 1 19 20, zl 6 22 1 21, zm 7 4 22, .g (.keep [0, 3, 4])]) (.seq (.reg 0 [zm 0 23 4, zm 1 5 23, .g (.keep [0, 3, 4, 5])]) (.block 2 (.loop zav.b1))))) (.reg 0 [zm 0 14 3, zd 1 15 .add 14 1, zm 2 3 15, .g (.keep [0, 3])]))
def zav.ir : C := .seq (.reg 0 [zb 0 2 false, .g (.keep [0])]) (.seq (.seq (.reg 0 [zk 0 3 0, .g (.keep [0, 3])]) (.block 0 (.loop zav.b0))) (.seq (.reg 0 [zb 0 2 true, .g (.keep [2])]) (.ret)))
def zav.rs : List Rs := [.sl 2]
theorem zav.ok : isFn Tryz.prog zav.id 60 zav.ann zav.ir zav.rs := ⟨Tryz.f59, _, Tryz.func59, rfl, rfl, by kernel_rfl, by kernel_rfl⟩
def zaK.ann : List (Nat × RA) := [(0, rk [0]), (1, rk [0, 3]), (2, rk [0, 3, 13]), (3, rk [0, 3]), (4, rk [0, 3, 4]), (5, rk [0, 3, 4, 5]), (6, rk [0, 3, 4, 5, 33]), (7, rk [0, 3, 4, 5]), (8, rk [0, 3, 4, 5, 6]), (9, ro [0, 3, 4, 5, 58] [0, 1, 2, 3, 4, 5, 6, 7, 8, 9, 10, 11, 12]), (10, rk [2]), (11, rk [2])]
def zaK.b1 : C := .seq (.seq (.reg 0 [zm 0 24 5, zm 1 25 0, zc 2 26 25, zf 3 27 26 26, zl 4 28 1 27, zm 5 29 3, zx 6 30 1 28 29, zl 7 31 1 30, zn 8 32 31, za 9 33 .lss 24 32, .g (.keep [0, 3, 4, 5, 33])]) (.cond (.tmp 33) (.skip) (.exit 2))) (.seq (.block 3 (.seq (.reg 1 [zm 0 36 0, zc 1 37 36, zf 2 38 37 26, zl 3 39 1 38, zm 4 40 3, zx 5 41 1 39 40, zl 6 42 1 41, zm 7 43 5, zx 8 44 4 42 43, zL 9 45 4 44, .o 10 (.alloc (some 6) 0 4 [.a (.int .i64 0), .a (.int .i64 0), .a (.string ⟨#[]⟩), .a (.slice none 0 0)]), .o 11 (.store [] 4 (.tmp 6) (.tmp 45)), .g (.keep [0, 3, 4, 5, 6])]) (.seq (.reg 0 [zf 0 46 6 0, zl 1 47 1 46, zm 2 48 5, zm 3 49 4, za 4 50 .sub 48 49, .o 5 (.call (some 51) zaZ.id [(.tmp 50)]), za 6 52 .neq 47 51, zm 7 53 52, yf 8 53 false 54 6 3, yl 9 53 false 55 1 54, yn 10 53 false 56 55, yd 11 53 false 57 .neq 56 0, zp 12 58 53 true 57, .g (.keep [0, 3, 4, 5, 58])]) (.cond (.tmp 58) (.seq (.reg 0 [zb 0 2 false, .g (.keep [2])]) (.ret)) (.skip))))) (.reg 0 [zm 0 34 5, zd 1 35 .add 34 1, zm 2 5 35, .g (.keep [0, 3, 4, 5])]))
def zaK.b0 : C := .seq (.seq (.reg 0 [zm 0 7 3, zm 1 8 0, zc 2 9 8, zf 3 10 9 26, zl 4 11 1 10, zn 5 12 11, za 6 13 .lss 7 12, .g (.keep [0, 3, 13])]) (.cond (.tmp 13) (.skip) (.exit 0))) (.seq (.block 1 (.seq (.reg 0 [zm 0 16 0, zc 1 17 16, zf 2 18 17 27, zl 3 19 1 18, zm 4 20 3, zx 5 21 1 19 20, zl 6 22 1 21, zm 7 4 22, .g (.keep [0, 3, 4])]) (.seq (.reg 0 [zm 0 23 4, zm 1 5 23, .g (.keep [0, 3, 4, 5])]) (.block 2 (.loop zaK.b1))))) (.reg 0 [zm 0 14 3, zd 1 15 .add 14 1, zm 2 3 15, .g (.keep [0, 3])]))
def zaK.ir : C := .seq (.reg 0 [zb 0 2 false, .g (.keep [0])]) (.seq (.seq (.reg 0 [zk 0 3 0, .g (.keep [0, 3])]) (.block 0 (.loop zaK.b0))) (.seq (.reg 0 [zb 0 2 true, .g (.keep [2])]) (.ret)))
def zaK.rs : List Rs := [.sl 2]
theorem zaK.ok : isFn Tryz.prog zaK.id 59 zaK.ann zaK.ir zaK.rs := ⟨Tryz.f60, _, Tryz.func60, rfl, rfl, by kernel_rfl, by kernel_rfl⟩
def zbE.ann : List (Nat × RA) := [(0, rk [0, 1]), (1, rp [4] [(2, [1000000])])]
def zbE.ir : C := .seq (.reg 0 [.o 0 (.lt (some 4) (.mov (.const (.slice none 0 0)))), .g (.keep [0, 1])]) (.seq (.reg 0 [zm 0 5 0, zm 1 6 1, .o 2 (.callm (some 7) (.func zaW.id) [(.tmp 5), (.tmp 6), (.const (.int .i64 40))]), zm 3 4 7, .g (.keep [4])]) (.ret))
def zbE.rs : List Rs := [.sl 4]
theorem zbE.ok : isFn Tryz.prog zbE.id 8 zbE.ann zbE.ir zbE.rs := ⟨Tryz.f61, _, Tryz.func61, rfl, rfl, by kernel_rfl, by kernel_rfl⟩
def zbB.ann : List (Nat × RA) := [(0, rk [0, 1]), (1, rp [4] [(2, [1000000])])]
def zbB.ir : C := .seq (.reg 0 [.o 0 (.lt (some 4) (.mov (.const (.slice none 0 0)))), .g (.keep [0, 1])]) (.seq (.reg 0 [zm 0 5 0, zm 1 6 1, .o 2 (.callm (some 7) (.func zaJ.id) [(.tmp 5), (.tmp 6), (.const (.int .i64 40))]), zm 3 4 7, .g (.keep [4])]) (.ret))
def zbB.rs : List Rs := [.sl 4]
theorem zbB.ok : isFn Tryz.prog zbB.id 8 zbB.ann zbB.ir zbB.rs := ⟨Tryz.f62, _, Tryz.func62, rfl, rfl, by kernel_rfl, by kernel_rfl⟩
def za8.ann : List (Nat × RA) := [(0, rk [0]), (1, rk [0, 13]), (2, rk [2, 3]), (3, rk [0, 4]), (4, rk [0, 4, 17]), (5, rk [0, 4]), (6, rk [0, 4, 26]), (7, rk [2, 3]), (8, rk [0, 4, 5]), (9, rk [0, 4, 5, 30]), (10, rk [0, 4, 5]), (11, ro [0, 4, 5, 43] [0, 1, 2, 3, 4, 5, 6, 7, 8, 9, 10]), (12, rk [2, 3]), (13, ro [0, 4, 56] [0, 1, 2, 3, 4, 5, 6, 7, 8, 9, 10, 11]), (14, rk [2, 3]), (15, rk [2, 3])]
def za8.b1 : C := .seq (.seq (.reg 0 [zm 0 28 5, zm 1 29 4, za 2 30 .lss 28 29, .g (.keep [0, 4, 5, 30])]) (.cond (.tmp 30) (.skip) (.exit 2))) (.seq (.block 3 (.seq (.reg 0 [zm 0 33 0, zm 1 34 5, zx 2 35 3 33 34, zf 3 36 35 0, zl 4 37 1 36, zm 5 38 0, zm 6 39 4, zx 7 40 3 38 39, zf 8 41 40 0, zl 9 42 1 41, za 10 43 .eql 37 42, .g (.keep [0, 4, 5, 43])]) (.cond (.tmp 43) (.seq (.reg 0 [zm 0 44 4, zm 1 2 44, zk 2 3 41, .g (.keep [2, 3])]) (.ret)) (.skip)))) (.reg 0 [zm 0 31 5, zd 1 32 .add 31 1, zm 2 5 32, .g (.keep [0, 4, 5])]))
def za8.b0 : C := .seq (.seq (.reg 0 [zm 0 14 4, zm 1 15 0, zn 2 16 15, za 3 17 .lss 14 16, .g (.keep [0, 4, 17])]) (.cond (.tmp 17) (.skip) (.exit 0))) (.seq (.block 1 (.seq (.seq (.reg 0 [zm 0 20 0, zm 1 21 4, zx 2 22 3 20 21, zf 3 23 22 0, zl 4 24 1 23, .o 5 (.call (some 25) zbg.id [(.tmp 24)]), zq 6 26 25, .g (.keep [0, 4, 26])]) (.cond (.tmp 26) (.seq (.reg 0 [zm 0 27 4, zm 1 2 27, zk 2 3 41, .g (.keep [2, 3])]) (.ret)) (.skip))) (.seq (.seq (.reg 0 [zk 0 5 0, .g (.keep [0, 4, 5])]) (.block 2 (.loop za8.b1))) (.seq (.reg 0 [zm 0 45 0, zm 1 46 4, zx 2 47 3 45 46, zf 3 48 47 1, zl 4 49 1 48, zm 5 50 0, zm 6 51 4, zx 7 52 3 50 51, zf 8 53 52 2, zl 9 54 1 53, .o 10 (.call (some 55) zbx.id [(.tmp 49), (.tmp 54)]), zq 11 56 55, .g (.keep [0, 4, 56])]) (.cond (.tmp 56) (.seq (.reg 0 [zm 0 57 4, zm 1 2 57, zk 2 3 42, .g (.keep [2, 3])]) (.ret)) (.skip)))))) (.reg 0 [zm 0 18 4, zd 1 19 .add 18 1, zm 2 4 19, .g (.keep [0, 4])]))
def za8.ir : C := .seq (.reg 0 [zk 0 2 0, zk 1 3 0, .g (.keep [0])]) (.seq (.seq (.reg 0 [zm 0 6 0, zn 1 7 6, zd 2 8 .lss 7 1, zm 3 9 8, ym 4 9 false 10 0, yn 5 9 false 11 10, yd 6 9 false 12 .gtr 11 32, zp 7 13 9 true 12, .g (.keep [0, 13])]) (.cond (.tmp 13) (.seq (.reg 0 [zk 0 2 0, zk 1 3 40, .g (.keep [2, 3])]) (.ret)) (.skip))) (.seq (.seq (.reg 0 [zk 0 4 0, .g (.keep [0, 4])]) (.block 0 (.loop za8.b0))) (.seq (.reg 0 [zk 0 2 0, zk 1 3 0, .g (.keep [2, 3])]) (.ret))))
def za8.rs : List Rs := [.sl 2, .sl 3]
theorem za8.ok : isFn Tryz.prog za8.id 58 za8.ann za8.ir za8.rs := ⟨Tryz.f63, _, Tryz.func63, rfl, rfl, by kernel_rfl, by kernel_rfl⟩
def zbu.ann : List (Nat × RA) := [(0, rk [0]), (1, rk [2])]
def zbu.ir : C := .seq (.reg 0 [zb 0 2 false, .g (.keep [0])]) (.seq (.reg 0 [zm 0 3 0, zd 1 4 .lss 3 1, zm 2 5 4, ym 3 5 false 6 0, yd 4 5 false 7 .gtr 6 64, zp 5 8 5 true 7, zm 6 2 8, .g (.keep [2])]) (.ret))
def zbu.rs : List Rs := [.sl 2]
theorem zbu.ok : isFn Tryz.prog zbu.id 9 zbu.ann zbu.ir zbu.rs := ⟨Tryz.f64, _, Tryz.func64, rfl, rfl, by kernel_rfl, by kernel_rfl⟩
def za4.ann : List (Nat × RA) := [(0, rk [0, 1]), (1, rk [0, 1, 5]), (2, rk [0, 1, 5, 10]), (3, rk [0, 1, 5]), (4, rk [0, 1, 5, 27]), (5, rk [4]), (6, rk [0, 6]), (7, rk [0, 6, 31]), (8, rk [0, 6]), (9, rk [0, 6, 40]), (10, rk [4]), (11, rk [4])]
def za4.b1 : C := .seq (.seq (.reg 0 [zm 0 28 6, zm 1 29 0, zn 2 30 29, za 3 31 .lss 28 30, .g (.keep [0, 6, 31])]) (.cond (.tmp 31) (.skip) (.exit 2))) (.seq (.block 3 (.seq (.reg 0 [zm 0 34 0, zm 1 35 6, zx 2 36 2 34 35, zf 3 37 36 0, zl 4 38 1 37, .o 5 (.call (some 39) zbX.id [(.tmp 38)]), zq 6 40 39, .g (.keep [0, 6, 40])]) (.cond (.tmp 40) (.seq (.reg 0 [zk 0 4 45, .g (.keep [4])]) (.ret)) (.skip)))) (.reg 0 [zm 0 32 6, zd 1 33 .add 32 1, zm 2 6 33, .g (.keep [0, 6])]))
def za4.b0 : C := .seq (.seq (.reg 0 [zm 0 7 5, zm 1 8 0, zn 2 9 8, za 3 10 .lss 7 9, .g (.keep [0, 1, 5, 10])]) (.cond (.tmp 10) (.skip) (.exit 0))) (.seq (.block 1 (.seq (.reg 0 [zm 0 13 0, zm 1 14 5, zx 2 15 2 13 14, zf 3 16 15 1, zl 4 17 1 16, zd 5 18 .lss 17 0, zm 6 19 18, ym 7 19 false 20 0, ym 8 19 false 21 5, yx 9 19 false 22 2 20 21, yf 10 19 false 23 22 1, yl 11 19 false 24 1 23, ym 12 19 false 25 1, ya 13 19 false 26 .geq 24 25, zp 14 27 19 true 26, .g (.keep [0, 1, 5, 27])]) (.cond (.tmp 27) (.seq (.reg 0 [zk 0 4 44, .g (.keep [4])]) (.ret)) (.skip)))) (.reg 0 [zm 0 11 5, zd 1 12 .add 11 1, zm 2 5 12, .g (.keep [0, 1, 5])]))
def za4.ir : C := .seq (.reg 0 [zk 0 4 0, .g (.keep [0, 1])]) (.seq (.seq (.reg 0 [zk 0 5 0, .g (.keep [0, 1, 5])]) (.block 0 (.loop za4.b0))) (.seq (.seq (.reg 0 [zk 0 6 0, .g (.keep [0, 6])]) (.block 2 (.loop za4.b1))) (.seq (.reg 0 [zk 0 4 0, .g (.keep [4])]) (.ret))))
def za4.rs : List Rs := [.sl 4]
theorem za4.ok : isFn Tryz.prog za4.id 41 za4.ann za4.ir za4.rs := ⟨Tryz.f65, _, Tryz.func65, rfl, rfl, by kernel_rfl, by kernel_rfl⟩
def zbI.ann : List (Nat × RA) := [(0, rk [1]), (1, rk [4]), (2, rk [2])]
def zbI.ir : C := .seq (.reg 1 [.o 0 (.box (some 1) 0 4 (.tmp 0)), zb 1 2 false, .g (.keep [1])]) (.seq (.reg 0 [zL 0 6 4 1, .o 1 (.call (some 7) za0.id [(.tmp 6)]), zm 2 5 7, ze 3 8 5 0, ze 4 9 5 1, zm 5 3 8, zm 6 4 9, .g (.keep [4])]) (.seq (.reg 0 [zm 0 10 4, zd 1 11 .eql 10 0, zm 2 2 11, .g (.keep [2])]) (.ret)))
def zbI.rs : List Rs := [.sl 2]
theorem zbI.ok : isFn Tryz.prog zbI.id 12 zbI.ann zbI.ir zbI.rs := ⟨Tryz.f66, _, Tryz.func66, rfl, rfl, by kernel_rfl, by kernel_rfl⟩
def zbV.ann : List (Nat × RA) := [(0, rk [0, 1]), (1, rk [0, 1, 5]), (2, rp [5, 20] [(9, [1000001])]), (3, rk [4]), (4, rk [45]), (5, rk [4]), (6, rk [4])]
def zbV.ir : C := .seq (.reg 0 [zk 0 4 0, .g (.keep [0, 1])]) (.seq (.reg 1 [zm 0 6 0, zm 1 7 1, zx 2 8 3 6 7, zL 3 9 3 8, .o 4 (.alloc (some 5) 0 3 [.a (.string ⟨#[]⟩), .a (.int .i64 0), .a (.int .i64 0)]), .o 5 (.store [] 3 (.tmp 5) (.tmp 9)), .g (.keep [0, 1, 5])]) (.seq (.seq (.reg 0 [zf 0 10 5 0, zl 1 11 1 10, .o 2 (.call (some 12) zcc.id [(.tmp 11)]), zq 3 13 12, zm 4 14 13, ym 5 14 false 15 0, ym 6 14 false 16 1, .gd 7 14 false (some 17) (.lt (some 17) (.slSl 3 (.tmp 15) none (some (.tmp 16)))), .gd 8 14 false (some 18) (.lt (some 18) (.mkfn (.func zb4.id) [] [(.tmp 5)])), .gd 9 14 false (some 19) (.callb (some 19) (.func zau.id) [(.tmp 17), (.tmp 18)]), zp 10 20 14 true 19, .g (.keep [5, 20])]) (.cond (.tmp 20) (.seq (.reg 0 [zk 0 4 41, .g (.keep [4])]) (.ret)) (.skip))) (.seq (.seq (.reg 0 [zf 0 21 5 1, zl 1 22 1 21, .o 2 (.call (some 23) zb7.id [(.tmp 22), (.const (.int .i64 1000000000))]), zq 3 24 23, zm 4 25 24, yf 5 25 false 26 5 2, yl 6 25 false 27 1 26, .gd 7 25 false (some 28) (.call (some 28) zb7.id [(.tmp 27), (.const (.int .i64 1000000000))]), yq 8 25 false 29 28, zp 9 30 25 true 29, zm 10 31 30, yf 11 31 false 32 5 1, yl 12 31 false 33 1 32, yf 13 31 false 34 5 2, yl 14 31 false 35 1 34, ya 15 31 false 36 .gtr 33 35, zp 16 37 31 true 36, zm 17 38 37, yf 18 38 false 39 5 2, yl 19 38 false 40 1 39, yf 20 38 false 41 5 1, yl 21 38 false 42 1 41, ya 22 38 false 43 .sub 40 42, yd 23 38 false 44 .geq 43 64, zp 24 45 38 true 44, .g (.keep [45])]) (.cond (.tmp 45) (.seq (.reg 0 [zk 0 4 42, .g (.keep [4])]) (.ret)) (.skip))) (.seq (.reg 0 [zk 0 4 0, .g (.keep [4])]) (.ret)))))
def zbV.rs : List Rs := [.sl 4]
theorem zbV.ok : isFn Tryz.prog zbV.id 46 zbV.ann zbV.ir zbV.rs := ⟨Tryz.f67, _, Tryz.func67, rfl, rfl, by kernel_rfl, by kernel_rfl⟩
def zcN.ann : List (Nat × RA) := [(0, rk [1]), (1, rk [1, 3, 4]), (2, rk [1, 3, 4, 14]), (3, rk [2]), (4, rk [3, 4, 24]), (5, rk [2]), (6, rk [4, 32]), (7, rk [2]), (8, rk [34]), (9, rk [2]), (10, rk [2])]
def zcN.ir : C := .seq (.reg 1 [.o 0 (.box (some 1) 0 4 (.tmp 0)), zk 1 2 0, .g (.keep [1])]) (.seq (.reg 0 [zf 0 6 1 3, zl 1 7 1 6, zf 2 8 1 0, zl 3 9 1 8, zn 4 10 9, .o 5 (.call (some 11) zcm.id [(.tmp 7), (.tmp 10)]), zm 6 5 11, ze 7 12 5 0, ze 8 13 5 1, zm 9 3 12, zm 10 4 13, .g (.keep [1, 3, 4])]) (.seq (.block 0 (.seq (.reg 0 [zf 0 15 1 2, zl 1 16 1 15, zq 2 17 16, zm 3 18 17, yf 4 18 true 19 1 3, yl 5 18 true 20 1 19, yn 6 18 true 21 20, yd 7 18 true 22 .gtr 21 0, zr 8 23 18 22 false, zm 9 14 23, .g (.keep [1, 3, 4, 14])]) (.cond (.tmp 14) (.seq (.reg 0 [zk 0 2 48, .g (.keep [2])]) (.ret)) (.seq (.reg 0 [zf 0 25 1 2, zl 1 26 1 25, zf 2 27 1 3, zl 3 28 1 27, zn 4 29 28, .o 5 (.call (some 30) zcb.id [(.tmp 26), (.tmp 29)]), zq 6 31 30, zm 7 24 31, .g (.keep [3, 4, 24])]) (.cond (.tmp 24) (.seq (.reg 0 [zk 0 2 47, .g (.keep [2])]) (.ret)) (.seq (.reg 0 [zm 0 33 3, zm 1 32 33, .g (.keep [4, 32])]) (.cond (.tmp 32) (.seq (.reg 0 [zk 0 2 44, .g (.keep [2])]) (.ret)) (.seq (.reg 0 [zm 0 35 4, zm 1 34 35, .g (.keep [34])]) (.cond (.tmp 34) (.seq (.reg 0 [zk 0 2 45, .g (.keep [2])]) (.ret)) (.skip)))))))))) (.seq (.reg 0 [zk 0 2 0, .g (.keep [2])]) (.ret))))
def zcN.rs : List Rs := [.sl 2]
theorem zcN.ok : isFn Tryz.prog zcN.id 36 zcN.ann zcN.ir zcN.rs := ⟨Tryz.f68, _, Tryz.func68, rfl, rfl, by kernel_rfl, by kernel_rfl⟩
def zct.ann : List (Nat × RA) := [(0, rk [1]), (1, rk [4]), (2, rk [2])]
def zct.ir : C := .seq (.reg 1 [.o 0 (.box (some 1) 0 4 (.tmp 0)), zb 1 2 false, .g (.keep [1])]) (.seq (.reg 0 [zL 0 6 4 1, .o 1 (.call (some 7) zbU.id [(.tmp 6)]), zm 2 5 7, ze 3 8 5 0, ze 4 9 5 1, zm 5 3 8, zm 6 4 9, .g (.keep [4])]) (.seq (.reg 0 [zm 0 10 4, zd 1 11 .eql 10 0, zm 2 2 11, .g (.keep [2])]) (.ret)))
def zct.rs : List Rs := [.sl 2]
theorem zct.ok : isFn Tryz.prog zct.id 12 zct.ann zct.ir zct.rs := ⟨Tryz.f69, _, Tryz.func69, rfl, rfl, by kernel_rfl, by kernel_rfl⟩
def zcq.ann : List (Nat × RA) := [(0, rk [1, 2]), (1, rk [1, 2, 11]), (2, rk [4]), (3, rk [1, 2, 5]), (4, rk [1, 2, 5, 13, 14, 15]), (5, rk [1, 2, 5, 13, 14, 15, 16]), (6, rk [1, 2, 5, 7, 13, 14, 15]), (7, rk [1, 2, 5, 7, 8, 13, 14, 15]), (8, rk [1, 2, 5, 7, 8, 13, 14, 15, 29]), (9, rk [1, 2, 5, 13, 14, 15]), (10, rk [1, 2, 5, 13, 14, 15]), (11, rk [1, 2, 5, 13, 14, 15]), (12, rk [4])]
def zcq.b0 : C := .seq (.reg 0 [za 0 16 .lss 15 14, .g (.keep [1, 2, 5, 13, 14, 15, 16])]) (.seq (.cond (.tmp 16) (.skip) (.exit 0)) (.seq (.block 1 (.seq (.reg 1 [zx 0 17 2 13 15, zL 1 18 2 17, .o 2 (.alloc (some 7) 0 2 [.a (.int .i64 0), .a (.int .i64 0)]), .o 3 (.store [] 2 (.tmp 7) (.tmp 18)), .g (.keep [1, 2, 5, 7, 13, 14, 15])]) (.seq (.reg 1 [zf 0 19 2 0, zl 1 20 1 19, zf 2 21 7 1, zl 3 22 1 21, zx 4 23 3 20 22, zL 5 24 3 23, .o 6 (.alloc (some 8) 0 3 [.a (.string ⟨#[]⟩), .a (.int .i64 0), .a (.int .i64 0)]), .o 7 (.store [] 3 (.tmp 8) (.tmp 24)), .g (.keep [1, 2, 5, 7, 8, 13, 14, 15])]) (.seq (.reg 0 [zf 0 25 7 0, zl 1 26 1 25, zd 2 27 .gtr 26 0, zm 3 28 1, zy 4 29 false 27 28, .g (.keep [1, 2, 5, 7, 8, 13, 14, 15, 29])]) (.cond (.tmp 29) (.reg 0 [zm 0 30 5, zf 1 31 7 0, zl 2 32 1 31, zf 3 33 8 1, zl 4 34 1 33, za 5 35 .mul 32 34, za 6 36 .add 30 35, zm 7 5 36, .g (.keep [1, 2, 5, 13, 14, 15])]) (.reg 0 [zm 0 37 5, zf 1 38 7 0, zl 2 39 1 38, zf 3 40 8 2, zl 4 41 1 40, za 5 42 .mul 39 41, za 6 43 .add 37 42, zm 7 5 43, .g (.keep [1, 2, 5, 13, 14, 15])])))))) (.reg 0 [zd 0 44 .add 15 1, zm 1 15 44, .g (.keep [1, 2, 5, 13, 14, 15])])))
def zcq.ir : C := .seq (.reg 1 [.o 0 (.box (some 2) 0 4 (.tmp 0)), zk 1 4 0, .g (.keep [1, 2])]) (.seq (.seq (.reg 0 [zL 0 9 4 2, .o 1 (.call (some 10) zct.id [(.tmp 9)]), zq 2 11 10, .g (.keep [1, 2, 11])]) (.cond (.tmp 11) (.seq (.reg 0 [zk 0 4 0, .g (.keep [4])]) (.ret)) (.skip))) (.seq (.reg 0 [zk 0 5 0, .g (.keep [1, 2, 5])]) (.seq (.seq (.reg 0 [zf 0 12 2 3, zl 1 13 1 12, zn 2 14 13, zk 3 15 0, .g (.keep [1, 2, 5, 13, 14, 15])]) (.block 0 (.loop zcq.b0))) (.seq (.reg 0 [zm 0 45 5, zm 1 4 45, .g (.keep [4])]) (.ret)))))
def zcq.rs : List Rs := [.sl 4]
theorem zcq.ok : isFn Tryz.prog zcq.id 46 zcq.ann zcq.ir zcq.rs := ⟨Tryz.f70, _, Tryz.func70, rfl, rfl, by kernel_rfl, by kernel_rfl⟩
def zbr.ann : List (Nat × RA) := [(0, rk [1, 2]), (1, rk [1, 2, 10]), (2, rk [4]), (3, rk [1, 2, 5]), (4, rk [1, 2, 5, 6]), (5, rk [1, 2, 5, 6, 15]), (6, rk [1, 2, 5, 6]), (7, ro [1, 2, 5, 6, 7] [0, 1, 2, 3, 4, 5, 6, 7, 8, 9, 10, 11]), (8, rk [1, 2, 5, 6, 7, 36]), (9, ro [1, 2, 5, 6] [0, 1, 2, 3, 4, 5, 6, 7, 8, 9, 10, 11]), (10, ro [1, 2, 5, 6] [0, 1, 2, 3, 4, 5, 6, 7, 8, 9, 10, 11]), (11, rk [4])]
def zbr.b0 : C := .seq (.seq (.reg 0 [zm 0 11 6, zf 1 12 2 3, zl 2 13 1 12, zn 3 14 13, za 4 15 .lss 11 14, .g (.keep [1, 2, 5, 6, 15])]) (.cond (.tmp 15) (.skip) (.exit 0))) (.seq (.block 1 (.seq (.reg 1 [zf 0 18 2 0, zl 1 19 1 18, zf 2 20 2 3, zl 3 21 1 20, zm 4 22 6, zx 5 23 2 21 22, zf 6 24 23 1, zl 7 25 1 24, zx 8 26 3 19 25, zL 9 27 3 26, .o 10 (.alloc (some 7) 0 3 [.a (.string ⟨#[]⟩), .a (.int .i64 0), .a (.int .i64 0)]), .o 11 (.store [] 3 (.tmp 7) (.tmp 27)), .g (.keep [1, 2, 5, 6, 7])]) (.seq (.reg 0 [zm 0 28 1, zf 1 29 2 3, zl 2 30 1 29, zm 3 31 6, zx 4 32 2 30 31, zf 5 33 32 0, zl 6 34 1 33, za 7 35 .mul 28 34, zd 8 36 .gtr 35 0, .g (.keep [1, 2, 5, 6, 7, 36])]) (.cond (.tmp 36) (.reg 0 [zm 0 37 5, zf 1 38 2 3, zl 2 39 1 38, zm 3 40 6, zx 4 41 2 39 40, zf 5 42 41 0, zl 6 43 1 42, zf 7 44 7 1, zl 8 45 1 44, za 9 46 .mul 43 45, za 10 47 .add 37 46, zm 11 5 47, .g (.keep [1, 2, 5, 6])]) (.reg 0 [zm 0 48 5, zf 1 49 2 3, zl 2 50 1 49, zm 3 51 6, zx 4 52 2 50 51, zf 5 53 52 0, zl 6 54 1 53, zf 7 55 7 2, zl 8 56 1 55, za 9 57 .mul 54 56, za 10 58 .add 48 57, zm 11 5 58, .g (.keep [1, 2, 5, 6])]))))) (.reg 0 [zm 0 16 6, zd 1 17 .add 16 1, zm 2 6 17, .g (.keep [1, 2, 5, 6])]))
def zbr.ir : C := .seq (.reg 1 [.o 0 (.box (some 2) 0 4 (.tmp 0)), zk 1 4 0, .g (.keep [1, 2])]) (.seq (.seq (.reg 0 [zL 0 8 4 2, .o 1 (.call (some 9) zbI.id [(.tmp 8)]), zq 2 10 9, .g (.keep [1, 2, 10])]) (.cond (.tmp 10) (.seq (.reg 0 [zk 0 4 0, .g (.keep [4])]) (.ret)) (.skip))) (.seq (.reg 0 [zk 0 5 0, .g (.keep [1, 2, 5])]) (.seq (.seq (.reg 0 [zk 0 6 0, .g (.keep [1, 2, 5, 6])]) (.block 0 (.loop zbr.b0))) (.seq (.reg 0 [zm 0 59 5, zm 1 4 59, .g (.keep [4])]) (.ret)))))
def zbr.rs : List Rs := [.sl 4]
theorem zbr.ok : isFn Tryz.prog zbr.id 60 zbr.ann zbr.ir zbr.rs := ⟨Tryz.f71, _, Tryz.func71, rfl, rfl, by kernel_rfl, by kernel_rfl⟩
def zat.ann : List (Nat × RA) := [(0, rk [0, 1]), (1, rk [4])]
def zat.ir : C := .seq (.reg 0 [zb 0 4 false, .g (.keep [0, 1])]) (.seq (.reg 0 [zm 0 5 0, zm 1 6 1, .o 2 (.call (some 7) zal.id [(.tmp 5), (.tmp 6)]), zd 3 8 .geq 7 0, zm 4 4 8, .g (.keep [4])]) (.ret))
def zat.rs : List Rs := [.sl 4]
theorem zat.ok : isFn Tryz.prog zat.id 9 zat.ann zat.ir zat.rs := ⟨Tryz.f72, _, Tryz.func72, rfl, rfl, by kernel_rfl, by kernel_rfl⟩
def zb3.ann : List (Nat × RA) := [(0, rk [1, 2]), (1, rk [3])]
def zb3.ir : C := .seq (.reg 1 [.o 0 (.box (some 2) 0 10 (.tmp 0)), zb 1 3 false, .g (.keep [1, 2])]) (.seq (.reg 0 [zL 0 4 10 2, zl 1 5 1 1, .o 2 (.call (some 6) zcv.id [(.tmp 4), (.tmp 5)]), zq 3 7 6, zm 4 3 7, .g (.keep [3])]) (.ret))
def zb3.rs : List Rs := [.sl 3]
theorem zb3.ok : isFn Tryz.prog zb3.id 8 zb3.ann zb3.ir zb3.rs := ⟨Tryz.f73, _, Tryz.func73, rfl, rfl, by kernel_rfl, by kernel_rfl⟩
def zcp.ann : List (Nat × RA) := [(0, rk [0, 1]), (1, rk [0, 1, 5]), (2, rk [1, 5, 8, 9, 10]), (3, rk [1, 5, 8, 9, 10, 11]), (4, rk [1, 5, 7, 8, 9, 10]), (5, ro [1, 5, 8, 9, 10] [0, 1, 2, 3, 4, 5, 6, 7, 8, 9]), (6, rk [1, 5, 8, 9, 10]), (7, rk [4])]
def zcp.b0 : C := .seq (.reg 0 [za 0 11 .lss 10 9, .g (.keep [1, 5, 8, 9, 10, 11])]) (.seq (.cond (.tmp 11) (.skip) (.exit 0)) (.seq (.block 1 (.seq (.reg 1 [zx 0 12 2 8 10, zL 1 13 2 12, .o 2 (.alloc (some 7) 0 2 [.a (.int .i64 0), .a (.int .i64 0)]), .o 3 (.store [] 2 (.tmp 7) (.tmp 13)), .g (.keep [1, 5, 7, 8, 9, 10])]) (.reg 0 [zm 0 14 5, zf 1 15 7 0, zl 2 16 1 15, zm 3 17 1, zf 4 18 7 1, zl 5 19 1 18, .o 6 (.callv (some 20) (.tmp 17) [(.tmp 19)]), za 7 21 .mul 16 20, za 8 22 .add 14 21, zm 9 5 22, .g (.keep [1, 5, 8, 9, 10])]))) (.reg 0 [zd 0 23 .add 10 1, zm 1 10 23, .g (.keep [1, 5, 8, 9, 10])])))
def zcp.ir : C := .seq (.reg 0 [zk 0 4 0, .g (.keep [0, 1])]) (.seq (.reg 0 [zk 0 5 0, .g (.keep [0, 1, 5])]) (.seq (.seq (.reg 0 [zm 0 8 0, zn 1 9 8, zk 2 10 0, .g (.keep [1, 5, 8, 9, 10])]) (.block 0 (.loop zcp.b0))) (.seq (.reg 0 [zm 0 24 5, zm 1 4 24, .g (.keep [4])]) (.ret))))
def zcp.rs : List Rs := [.sl 4]
theorem zcp.ok : isFn Tryz.prog zcp.id 25 zcp.ann zcp.ir zcp.rs := ⟨Tryz.f74, _, Tryz.func74, rfl, rfl, by kernel_rfl, by kernel_rfl⟩
def zca.ann : List (Nat × RA) := [(0, rk [0, 1]), (1, rk [3])]
def zca.ir : C := .seq (.reg 0 [zk 0 3 0, .g (.keep [0, 1])]) (.seq (.reg 0 [zl 0 4 1 1, zm 1 5 0, zx 2 6 1 4 5, zl 3 7 1 6, zm 4 3 7, .g (.keep [3])]) (.ret))
def zca.rs : List Rs := [.sl 3]
theorem zca.ok : isFn Tryz.prog zca.id 8 zca.ann zca.ir zca.rs := ⟨Tryz.f75, _, Tryz.func75, rfl, rfl, by kernel_rfl, by kernel_rfl⟩
def zbk.ann : List (Nat × RA) := [(0, rp [0, 1] [(1, [1000000])]), (1, rp [] [(3, [1000000])])]
def zbk.ir : C := .seq (.reg 0 [zm 0 4 0, .o 1 (.callm (some 5) (.func zaQ.id) [(.tmp 4), (.const (.int .i64 1))]), .g (.keep [0, 1])]) (.reg 0 [zm 0 6 0, zm 1 7 1, .o 2 (.lt (some 8) (.lenStr (.tmp 7))), .o 3 (.callm (some 9) (.func zaQ.id) [(.tmp 6), (.tmp 8)]), .g (.keep [])])
def zbk.rs : List Rs := []
theorem zbk.ok : isFn Tryz.prog zbk.id 10 zbk.ann zbk.ir zbk.rs := ⟨Tryz.f76, _, Tryz.func76, rfl, rfl, by kernel_rfl, by kernel_rfl⟩
def zbA.ann : List (Nat × RA) := [(0, rk [0, 3]), (1, rp [0, 3] [(1, [1000000])]), (2, rp [0, 3] [(4, [1000000])]), (3, rp [0, 3] [(4, [1000000])]), (4, rp [0, 3] [(4, [1000000])]), (5, rp [] [(3, [1000000])])]
def zbA.ir : C := .seq (.reg 1 [.o 0 (.box (some 3) 0 10 (.tmp 1)), .g (.keep [0, 3])]) (.seq (.reg 0 [zm 0 4 0, .o 1 (.callm (some 5) (.func zaQ.id) [(.tmp 4), (.const (.int .i64 1))]), .g (.keep [0, 3])]) (.seq (.reg 0 [zm 0 6 0, zf 1 7 3 2, zl 2 8 1 7, zn 3 9 8, .o 4 (.callm (some 10) (.func zaQ.id) [(.tmp 6), (.tmp 9)]), .g (.keep [0, 3])]) (.seq (.reg 0 [zm 0 11 0, zf 1 12 3 7, zl 2 13 1 12, zn 3 14 13, .o 4 (.callm (some 15) (.func zaQ.id) [(.tmp 11), (.tmp 14)]), .g (.keep [0, 3])]) (.seq (.reg 0 [zm 0 16 0, zf 1 17 3 8, zl 2 18 1 17, zn 3 19 18, .o 4 (.callm (some 20) (.func zaQ.id) [(.tmp 16), (.tmp 19)]), .g (.keep [0, 3])]) (.reg 0 [zm 0 21 0, zf 1 22 3 9, zl 2 23 1 22, .o 3 (.callm (some 24) (.func za1.id) [(.tmp 21), (.tmp 23)]), .g (.keep [])])))))
def zbA.rs : List Rs := []
theorem zbA.ok : isFn Tryz.prog zbA.id 25 zbA.ann zbA.ir zbA.rs := ⟨Tryz.f77, _, Tryz.func77, rfl, rfl, by kernel_rfl, by kernel_rfl⟩
def zaN.ann : List (Nat × RA) := [(0, rk [0, 1, 2]), (1, rp [0, 1, 2, 7] [(0, [1000004])]), (2, { gs := [(0, [.wk])], keep := some [0, 1, 2, 7] }), (3, rk [0, 1, 2, 7, 8]), (4, rk [0, 1, 2, 7, 8, 15]), (5, rk [0, 1, 2, 7, 8]), (6, rp [0, 1, 2, 7, 8] [(4, [1000004])]), (7, { gs := [(0, [.frz 7])], keep := some [0, 1, 7], aps := [(6, [1000004])] }), (8, rp [1, 7] [(7, [1000004])]), (9, rk [6])]
def zaN.b0 : C := .seq (.seq (.reg 0 [zm 0 13 8, zm 1 14 2, za 2 15 .lss 13 14, .g (.keep [0, 1, 2, 7, 8, 15])]) (.cond (.tmp 15) (.skip) (.exit 0))) (.seq (.block 1 (.reg 2 [zm 0 18 7, zm 1 19 8, .o 2 (.call (some 20) zaZ.id [(.tmp 19)]), .o 3 (.lt (some 21) (.build [.a (.int .i64 0), .a (.int .i64 0)] [(0, 1, (.tmp 20))])), .o 4 (.bsv (some 22) 2 1 [.a (.int .i64 0), .a (.int .i64 0)] [(0, (.tmp 21))]), .o 5 (.app [] (some 23) 1 2 16 (.tmp 18) (.tmp 22)), zm 6 7 23, .g (.keep [0, 1, 2, 7, 8])])) (.reg 0 [zm 0 16 8, zd 1 17 .add 16 1, zm 2 8 17, .g (.keep [0, 1, 2, 7, 8])]))
def zaN.ir : C := .seq (.reg 0 [.o 0 (.lt (some 6) (.mov (.const (.slice none 0 0)))), .g (.keep [0, 1, 2])]) (.seq (.reg 1 [.o 0 (.bsv (some 9) 2 0 [.a (.int .i64 0), .a (.int .i64 0)] []), zm 1 7 9, .g (.keep [0, 1, 2, 7])]) (.seq (.reg 1 [.g (.wk), zm 0 10 7, zm 1 11 1, .o 2 (.app [] (some 12) 0 2 16 (.tmp 10) (.tmp 11)), zm 3 7 12, .g (.keep [0, 1, 2, 7])]) (.seq (.seq (.reg 0 [zk 0 8 0, .g (.keep [0, 1, 2, 7, 8])]) (.block 0 (.loop zaN.b0))) (.seq (.reg 2 [.g (.frz 7), zm 0 24 0, zm 1 25 0, zc 2 26 25, zf 3 27 26 4, zl 4 28 1 27, zm 5 29 7, .o 6 (.bsv (some 30) 1 1 [.a (.slice none 0 0)] [(0, (.tmp 29))]), .o 7 (.app [] (some 31) 1 1 24 (.tmp 28) (.tmp 30)), zc 8 32 24, zf 9 33 32 4, .o 10 (.store [] 1 (.tmp 33) (.tmp 31)), .g (.keep [0, 1, 7])]) (.seq (.reg 2 [zm 0 34 0, zm 1 35 0, zc 2 36 35, zf 3 37 36 5, zl 4 38 1 37, zm 5 39 1, zn 6 40 39, .o 7 (.bsv (some 41) 1 1 [.a (.int .i64 0)] [(0, (.tmp 40))]), .o 8 (.app [] (some 42) 1 1 8 (.tmp 38) (.tmp 41)), zc 9 43 34, zf 10 44 43 5, .o 11 (.store [] 1 (.tmp 44) (.tmp 42)), .g (.keep [1, 7])]) (.seq (.reg 0 [zm 0 45 7, zm 1 46 1, zn 2 47 46, zm 3 48 7, zn 4 49 48, .o 5 (.lt (some 50) (.slM 2 (.tmp 45) (.tmp 47) (.tmp 49))), zm 6 6 50, .g (.keep [6])]) (.ret)))))))
def zaN.rs : List Rs := [.sl 6]
theorem zaN.ok : isFn Tryz.prog zaN.id 51 zaN.ann zaN.ir zaN.rs := ⟨Tryz.f78, _, Tryz.func78, rfl, rfl, by kernel_rfl, by kernel_rfl⟩
def zaC.ann : List (Nat × RA) := [(0, rk [0, 1, 2]), (1, rp [0, 1, 2, 7] [(0, [1000004])]), (2, { gs := [(0, [.wk])], keep := some [0, 1, 2, 7, 8] }), (3, rk [0, 1, 2, 7, 8, 14]), (4, rk [0, 1, 2, 7, 8]), (5, rp [0, 1, 2, 7, 8] [(6, [1000000]), (7, [1000004])]), (6, rk [0, 1, 2, 7, 9]), (7, rk [0, 1, 2, 7, 9, 28]), (8, rk [0, 1, 2, 7, 9]), (9, rp [0, 1, 2, 7, 9] [(3, [1000004]), (4, [1000004])]), (10, { gs := [(0, [.frz 7])], keep := some [0, 1, 7], aps := [(6, [1000004])] }), (11, rp [1, 7] [(7, [1000004])]), (12, rk [6])]
def zaC.b1 : C := .seq (.seq (.reg 0 [zm 0 26 9, zm 1 27 2, za 2 28 .lss 26 27, .g (.keep [0, 1, 2, 7, 9, 28])]) (.cond (.tmp 28) (.skip) (.exit 2))) (.seq (.block 3 (.reg 3 [zm 0 31 7, zm 1 32 9, .o 2 (.call (some 33) zaZ.id [(.tmp 32)]), .o 3 (.bsv (some 34) 1 1 [.a (.int .i64 0)] [(0, (.tmp 33))]), .o 4 (.bsv (some 35) 1 1 [.a (.slice none 0 0)] [(0, (.tmp 34))]), .o 5 (.app [] (some 36) 2 1 24 (.tmp 31) (.tmp 35)), zm 6 7 36, .g (.keep [0, 1, 2, 7, 9])])) (.reg 0 [zm 0 29 9, zd 1 30 .add 29 1, zm 2 9 30, .g (.keep [0, 1, 2, 7, 9])]))
def zaC.b0 : C := .seq (.seq (.reg 0 [zm 0 11 8, zm 1 12 1, zn 2 13 12, za 3 14 .lss 11 13, .g (.keep [0, 1, 2, 7, 8, 14])]) (.cond (.tmp 14) (.skip) (.exit 0))) (.seq (.block 1 (.reg 2 [zm 0 17 7, zm 1 18 0, zm 2 19 1, zm 3 20 8, zx 4 21 1 19 20, zl 5 22 1 21, .o 6 (.callm (some 23) (.func zaB.id) [(.tmp 18), (.tmp 22), (.const (.int .i64 4))]), .o 7 (.bsv (some 24) 1 1 [.a (.slice none 0 0)] [(0, (.tmp 23))]), .o 8 (.app [] (some 25) 1 1 24 (.tmp 17) (.tmp 24)), zm 9 7 25, .g (.keep [0, 1, 2, 7, 8])])) (.reg 0 [zm 0 15 8, zd 1 16 .add 15 1, zm 2 8 16, .g (.keep [0, 1, 2, 7, 8])]))
def zaC.ir : C := .seq (.reg 0 [.o 0 (.lt (some 6) (.mov (.const (.slice none 0 0)))), .g (.keep [0, 1, 2])]) (.seq (.reg 1 [.o 0 (.bsv (some 10) 1 0 [.a (.slice none 0 0)] []), zm 1 7 10, .g (.keep [0, 1, 2, 7])]) (.seq (.seq (.reg 0 [.g (.wk), zk 0 8 0, .g (.keep [0, 1, 2, 7, 8])]) (.block 0 (.loop zaC.b0))) (.seq (.seq (.reg 0 [zk 0 9 0, .g (.keep [0, 1, 2, 7, 9])]) (.block 2 (.loop zaC.b1))) (.seq (.reg 2 [.g (.frz 7), zm 0 37 0, zm 1 38 0, zc 2 39 38, zf 3 40 39 16, zl 4 41 1 40, zm 5 42 7, .o 6 (.bsv (some 43) 1 1 [.a (.slice none 0 0)] [(0, (.tmp 42))]), .o 7 (.app [] (some 44) 1 1 24 (.tmp 41) (.tmp 43)), zc 8 45 37, zf 9 46 45 16, .o 10 (.store [] 1 (.tmp 46) (.tmp 44)), .g (.keep [0, 1, 7])]) (.seq (.reg 2 [zm 0 47 0, zm 1 48 0, zc 2 49 48, zf 3 50 49 17, zl 4 51 1 50, zm 5 52 1, zn 6 53 52, .o 7 (.bsv (some 54) 1 1 [.a (.int .i64 0)] [(0, (.tmp 53))]), .o 8 (.app [] (some 55) 1 1 8 (.tmp 51) (.tmp 54)), zc 9 56 47, zf 10 57 56 17, .o 11 (.store [] 1 (.tmp 57) (.tmp 55)), .g (.keep [1, 7])]) (.seq (.reg 0 [zm 0 58 7, zm 1 59 1, zn 2 60 59, zm 3 61 7, zn 4 62 61, .o 5 (.lt (some 63) (.slM 1 (.tmp 58) (.tmp 60) (.tmp 62))), zm 6 6 63, .g (.keep [6])]) (.ret)))))))
def zaC.rs : List Rs := [.sl 6]
theorem zaC.ok : isFn Tryz.prog zaC.id 64 zaC.ann zaC.ir zaC.rs := ⟨Tryz.f79, _, Tryz.func79, rfl, rfl, by kernel_rfl, by kernel_rfl⟩
def zaZ.ann : List (Nat × RA) := [(0, rk [0]), (1, rk [5]), (2, rk [2]), (3, rk [2])]
def zaZ.ir : C := .seq (.reg 0 [zk 0 2 0, .g (.keep [0])]) (.seq (.seq (.reg 0 [zm 0 3 0, zd 1 4 .rem 3 2, zd 2 5 .eql 4 0, .g (.keep [5])]) (.cond (.tmp 5) (.seq (.reg 0 [zk 0 2 (-7701), .g (.keep [2])]) (.ret)) (.skip))) (.seq (.reg 0 [zk 0 2 (-7702), .g (.keep [2])]) (.ret)))
def zaZ.rs : List Rs := [.sl 2]
theorem zaZ.ok : isFn Tryz.prog zaZ.id 6 zaZ.ann zaZ.ir zaZ.rs := ⟨Tryz.f80, _, Tryz.func80, rfl, rfl, by kernel_rfl, by kernel_rfl⟩
def zbh.ann : List (Nat × RA) := [(0, rk [1]), (1, rk [1, 3]), (2, rk [1, 3, 4]), (3, rk [1, 3, 4, 5]), (4, rk [1, 3, 4, 5, 32]), (5, rk [2]), (6, rk [2])]
def zbh.ir : C := .seq (.reg 1 [.o 0 (.box (some 1) 0 10 (.tmp 0)), zb 1 2 false, .g (.keep [1])]) (.seq (.reg 0 [zf 0 6 1 0, zl 1 7 1 6, zm 2 3 7, .g (.keep [1, 3])]) (.seq (.reg 0 [zm 0 8 3, zd 1 9 .eql 8 1, zm 2 10 9, ym 3 10 false 11 3, yd 4 10 false 12 .eql 11 7, zp 5 13 10 true 12, zm 6 4 13, .g (.keep [1, 3, 4])]) (.seq (.reg 0 [zm 0 14 3, .o 1 (.call (some 15) zbs.id [(.tmp 14)]), zm 2 5 15, .g (.keep [1, 3, 4, 5])]) (.seq (.seq (.reg 0 [zm 0 16 3, zd 1 17 .neq 16 9, zm 2 18 17, yf 3 18 true 19 1 4, yl 4 18 true 20 1 19, yd 5 18 true 21 .neq 20 0, zr 6 22 18 21 false, zm 7 23 22, ym 8 23 false 24 3, yd 9 23 false 25 .neq 24 8, ym 10 23 false 26 25, yf 11 26 true 27 1 9, yl 12 26 true 28 1 27, yn 13 26 true 29 28, yd 14 26 true 30 .gtr 29 0, yr 15 23 false 31 26 30 false, zp 16 32 23 true 31, .g (.keep [1, 3, 4, 5, 32])]) (.cond (.tmp 32) (.seq (.reg 0 [zb 0 2 true, .g (.keep [2])]) (.ret)) (.skip))) (.seq (.reg 0 [zm 0 33 3, zd 1 34 .neq 33 1, zm 2 35 34, ym 3 35 true 36 3, yd 4 35 true 37 .neq 36 9, zr 5 38 35 37 false, zm 6 39 38, yf 7 39 true 40 1 1, yl 8 39 true 41 1 40, yd 9 39 true 42 .neq 41 0, zr 10 43 39 42 false, zm 11 44 43, ym 12 44 false 45 4, yq 13 44 false 46 45, ym 14 44 false 47 46, yf 15 47 true 48 1 2, yl 16 47 true 49 1 48, yn 17 47 true 50 49, yd 18 47 true 51 .gtr 50 0, yr 19 44 false 52 47 51 false, zp 20 53 44 true 52, zm 21 54 53, ym 22 54 false 55 4, yq 23 54 false 56 55, ym 24 54 false 57 56, ym 25 57 true 58 3, yd 26 57 true 59 .neq 58 2, yr 27 54 false 60 57 59 false, ym 28 54 false 61 60, ym 29 61 true 62 3, yd 30 61 true 63 .neq 62 9, yr 31 54 false 64 61 63 false, ym 32 54 false 65 64, yf 33 65 true 66 1 3, yl 34 65 true 67 1 66, yd 35 65 true 68 .neq 67 0, yr 36 54 false 69 65 68 false, zp 37 70 54 true 69, zm 38 71 70, ym 39 71 false 72 3, yd 40 71 false 73 .neq 72 2, ym 41 71 false 74 73, ym 42 74 true 75 3, yd 43 74 true 76 .neq 75 4, yr 44 71 false 77 74 76 false, ym 45 71 false 78 77, ym 46 78 true 79 3, yd 47 78 true 80 .neq 79 7, yr 48 71 false 81 78 80 false, ym 49 71 false 82 81, yf 50 82 true 83 1 5, yl 51 82 true 84 1 83, yd 52 82 true 85 .neq 84 0, yr 53 71 false 86 82 85 false, zp 54 87 71 true 86, zm 55 88 87, ym 56 88 false 89 4, ym 57 88 false 90 89, ym 58 90 false 91 5, ym 59 90 false 92 91, ym 60 92 true 93 3, yd 61 92 true 94 .neq 93 5, yr 62 90 false 95 92 94 false, ym 63 90 false 96 95, ym 64 96 true 97 3, yd 65 96 true 98 .neq 97 6, yr 66 90 false 99 96 98 false, yp 67 88 false 100 90 true 99, ym 68 88 false 101 100, yf 69 101 true 102 1 6, yl 70 101 true 103 1 102, yd 71 101 true 104 .neq 103 0, yr 72 88 false 105 101 104 false, zp 73 106 88 true 105, zm 74 107 106, ym 75 107 false 108 5, yq 76 107 false 109 108, ym 77 107 false 110 109, yf 78 110 true 111 1 7, yl 79 110 true 112 1 111, yn 80 110 true 113 112, yd 81 110 true 114 .gtr 113 0, yr 82 107 false 115 110 114 false, zp 83 116 107 true 115, zm 84 117 116, ym 85 117 false 118 3, yd 86 117 false 119 .neq 118 4, ym 87 117 false 120 119, yf 88 120 true 121 1 8, yl 89 120 true 122 1 121, yn 90 120 true 123 122, yd 91 120 true 124 .gtr 123 0, yr 92 117 false 125 120 124 false, zp 93 126 117 true 125, zm 94 2 126, .g (.keep [2])]) (.ret))))))
def zbh.rs : List Rs := [.sl 2]
theorem zbh.ok : isFn Tryz.prog zbh.id 127 zbh.ann zbh.ir zbh.rs := ⟨Tryz.f81, _, Tryz.func81, rfl, rfl, by kernel_rfl, by kernel_rfl⟩
def zbs.ann : List (Nat × RA) := [(0, rk [0]), (1, rk [2])]
def zbs.ir : C := .seq (.reg 0 [zb 0 2 false, .g (.keep [0])]) (.seq (.reg 0 [zm 0 3 0, zd 1 4 .eql 3 3, zm 2 5 4, ym 3 5 false 6 0, yd 4 5 false 7 .eql 6 5, zp 5 8 5 true 7, zm 6 9 8, ym 7 9 false 10 0, yd 8 9 false 11 .eql 10 6, zp 9 12 9 true 11, zm 10 13 12, ym 11 13 false 14 0, yd 12 13 false 15 .eql 14 8, zp 13 16 13 true 15, zm 14 17 16, ym 15 17 false 18 0, yd 16 17 false 19 .eql 18 9, zp 17 20 17 true 19, zm 18 2 20, .g (.keep [2])]) (.ret))
def zbs.rs : List Rs := [.sl 2]
theorem zbs.ok : isFn Tryz.prog zbs.id 21 zbs.ann zbs.ir zbs.rs := ⟨Tryz.f82, _, Tryz.func82, rfl, rfl, by kernel_rfl, by kernel_rfl⟩
def zbv.ann : List (Nat × RA) := [(0, rk [1]), (1, rk [1, 13]), (2, rk [2]), (3, rk [1, 3]), (4, rk [1, 3, 18]), (5, rk [1, 3]), (6, ro [1, 3, 30] [0, 1, 2, 3, 4, 5, 6, 7, 8, 9]), (7, rk [2]), (8, rk [2])]
def zbv.b0 : C := .seq (.seq (.reg 0 [zm 0 14 3, zf 1 15 1 9, zl 2 16 1 15, zn 3 17 16, za 4 18 .lss 14 17, .g (.keep [1, 3, 18])]) (.cond (.tmp 18) (.skip) (.exit 0))) (.seq (.block 1 (.seq (.reg 0 [zf 0 21 1 9, zl 1 22 1 21, zm 2 23 3, zx 3 24 1 22 23, zl 4 25 1 24, zn 5 26 25, zf 6 27 1 7, zl 7 28 1 27, zn 8 29 28, za 9 30 .neq 26 29, .g (.keep [1, 3, 30])]) (.cond (.tmp 30) (.seq (.reg 0 [zb 0 2 false, .g (.keep [2])]) (.ret)) (.skip)))) (.reg 0 [zm 0 19 3, zd 1 20 .add 19 1, zm 2 3 20, .g (.keep [1, 3])]))
def zbv.ir : C := .seq (.reg 1 [.o 0 (.box (some 1) 0 10 (.tmp 0)), zb 1 2 false, .g (.keep [1])]) (.seq (.seq (.reg 0 [zf 0 4 1 7, zl 1 5 1 4, zn 2 6 5, zd 3 7 .gtr 6 8, zm 4 8 7, yf 5 8 false 9 1 9, yl 6 8 false 10 1 9, yn 7 8 false 11 10, .gd 8 8 false (some 12) (.call (some 12) zbu.id [(.tmp 11)]), zp 9 13 8 true 12, .g (.keep [1, 13])]) (.cond (.tmp 13) (.seq (.reg 0 [zb 0 2 false, .g (.keep [2])]) (.ret)) (.skip))) (.seq (.seq (.reg 0 [zk 0 3 0, .g (.keep [1, 3])]) (.block 0 (.loop zbv.b0))) (.seq (.reg 0 [zb 0 2 true, .g (.keep [2])]) (.ret))))
def zbv.rs : List Rs := [.sl 2]
theorem zbv.ok : isFn Tryz.prog zbv.id 31 zbv.ann zbv.ir zbv.rs := ⟨Tryz.f83, _, Tryz.func83, rfl, rfl, by kernel_rfl, by kernel_rfl⟩
def zbz.ann : List (Nat × RA) := [(0, rk [1, 2]), (1, rk [1, 2, 5]), (2, rk [1, 2, 5, 6]), (3, rk [1, 2, 5, 6, 21]), (4, rk [1, 2, 5, 6]), (5, rk [1, 2, 5, 6]), (6, rk [4])]
def zbz.b0 : C := .seq (.seq (.reg 0 [zm 0 17 6, zf 1 18 2 7, zl 2 19 1 18, zn 3 20 19, za 4 21 .lss 17 20, .g (.keep [1, 2, 5, 6, 21])]) (.cond (.tmp 21) (.skip) (.exit 0))) (.seq (.block 1 (.reg 0 [zm 0 24 5, zm 1 25 24, yf 2 25 true 26 2 7, yl 3 25 true 27 1 26, ym 4 25 true 28 6, yx 5 25 true 29 1 27 28, yl 6 25 true 30 1 29, ym 7 25 true 31 1, .gd 8 25 true (some 32) (.call (some 32) zbQ.id [(.tmp 30), (.tmp 31)]), zr 9 33 25 32 false, zm 10 5 33, .g (.keep [1, 2, 5, 6])])) (.reg 0 [zm 0 22 6, zd 1 23 .add 22 1, zm 2 6 23, .g (.keep [1, 2, 5, 6])]))
def zbz.ir : C := .seq (.reg 1 [.o 0 (.box (some 2) 0 10 (.tmp 0)), zb 1 4 false, .g (.keep [1, 2])]) (.seq (.reg 0 [zf 0 7 2 5, zl 1 8 1 7, zm 2 9 1, .o 3 (.call (some 10) zbQ.id [(.tmp 8), (.tmp 9)]), zm 4 11 10, yf 5 11 true 12 2 6, yl 6 11 true 13 1 12, ym 7 11 true 14 1, .gd 8 11 true (some 15) (.call (some 15) zbQ.id [(.tmp 13), (.tmp 14)]), zr 9 16 11 15 false, zm 10 5 16, .g (.keep [1, 2, 5])]) (.seq (.seq (.reg 0 [zk 0 6 0, .g (.keep [1, 2, 5, 6])]) (.block 0 (.loop zbz.b0))) (.seq (.reg 0 [zm 0 34 5, zm 1 4 34, .g (.keep [4])]) (.ret))))
def zbz.rs : List Rs := [.sl 4]
theorem zbz.ok : isFn Tryz.prog zbz.id 35 zbz.ann zbz.ir zbz.rs := ⟨Tryz.f84, _, Tryz.func84, rfl, rfl, by kernel_rfl, by kernel_rfl⟩
def zbi.ann : List (Nat × RA) := [(0, rk [0]), (1, rk [2])]
def zbi.ir : C := .seq (.reg 0 [zb 0 2 false, .g (.keep [0])]) (.seq (.reg 0 [zm 0 3 0, .o 1 (.call (some 4) zbR.id [(.tmp 3), (.const (.int .i64 1000000000))]), zm 2 2 4, .g (.keep [2])]) (.ret))
def zbi.rs : List Rs := [.sl 2]
theorem zbi.ok : isFn Tryz.prog zbi.id 5 zbi.ann zbi.ir zbi.rs := ⟨Tryz.f85, _, Tryz.func85, rfl, rfl, by kernel_rfl, by kernel_rfl⟩
def zbS.ann : List (Nat × RA) := [(0, rk [0, 1, 2]), (1, rk [0, 1, 2, 7]), (2, rk [0, 1, 2, 7, 11]), (3, rk [0, 1, 2, 7]), (4, ro [0, 1, 2, 7, 25] [0, 1, 2, 3, 4, 5, 6, 7, 8, 9, 10, 11]), (5, rk [6]), (6, rk [6])]
def zbS.b0 : C := .seq (.seq (.reg 0 [zm 0 8 7, zm 1 9 0, zn 2 10 9, za 3 11 .lss 8 10, .g (.keep [0, 1, 2, 7, 11])]) (.cond (.tmp 11) (.skip) (.exit 0))) (.seq (.block 1 (.seq (.reg 0 [zm 0 14 2, zm 1 15 0, zm 2 16 7, zx 3 17 1 15 16, zl 4 18 1 17, zx 5 19 1 14 18, zl 6 20 1 19, zm 7 21 1, zm 8 22 7, zx 9 23 1 21 22, zl 10 24 1 23, za 11 25 .neq 20 24, .g (.keep [0, 1, 2, 7, 25])]) (.cond (.tmp 25) (.seq (.reg 0 [zb 0 6 false, .g (.keep [6])]) (.ret)) (.skip)))) (.reg 0 [zm 0 12 7, zd 1 13 .add 12 1, zm 2 7 13, .g (.keep [0, 1, 2, 7])]))
def zbS.ir : C := .seq (.reg 0 [zb 0 6 false, .g (.keep [0, 1, 2])]) (.seq (.seq (.reg 0 [zk 0 7 0, .g (.keep [0, 1, 2, 7])]) (.block 0 (.loop zbS.b0))) (.seq (.reg 0 [zb 0 6 true, .g (.keep [6])]) (.ret)))
def zbS.rs : List Rs := [.sl 6]
theorem zbS.ok : isFn Tryz.prog zbS.id 26 zbS.ann zbS.ir zbS.rs := ⟨Tryz.f86, _, Tryz.func86, rfl, rfl, by kernel_rfl, by kernel_rfl⟩
def zcm.ann : List (Nat × RA) := [(0, rk [0, 1, 4, 5]), (1, rk [1, 4, 5, 8, 9, 10]), (2, rk [1, 4, 5, 8, 9, 10, 11]), (3, rk [1, 4, 5, 7, 8, 9, 10]), (4, rk [1, 4, 5, 7, 8, 9, 10]), (5, rk [1, 4, 5, 8, 9, 10]), (6, rk [1, 4, 5, 8, 9, 10]), (7, rk [4, 5])]
def zcm.b0 : C := .seq (.reg 0 [za 0 11 .lss 10 9, .g (.keep [1, 4, 5, 8, 9, 10, 11])]) (.seq (.cond (.tmp 11) (.skip) (.exit 0)) (.seq (.block 1 (.seq (.reg 1 [zx 0 12 2 8 10, zL 1 13 2 12, .o 2 (.alloc (some 7) 0 2 [.a (.int .i64 0), .a (.int .i64 0)]), .o 3 (.store [] 2 (.tmp 7) (.tmp 13)), .g (.keep [1, 4, 5, 7, 8, 9, 10])]) (.seq (.reg 0 [zm 0 14 4, zm 1 15 14, yf 2 15 false 16 7 1, yl 3 15 false 17 1 16, yd 4 15 false 18 .lss 17 0, zp 5 19 15 true 18, zm 6 20 19, yf 7 20 false 21 7 1, yl 8 20 false 22 1 21, ym 9 20 false 23 1, ya 10 20 false 24 .geq 22 23, zp 11 25 20 true 24, zm 12 4 25, .g (.keep [1, 4, 5, 7, 8, 9, 10])]) (.reg 0 [zm 0 26 5, zm 1 27 26, yf 2 27 false 28 7 0, yl 3 27 false 29 1 28, yd 4 27 false 30 .eql 29 0, zp 5 31 27 true 30, zm 6 32 31, yf 7 32 false 33 7 0, yl 8 32 false 34 1 33, .gd 9 32 false (some 35) (.call (some 35) zb7.id [(.tmp 34), (.const (.int .i64 1000000))]), yq 10 32 false 36 35, zp 11 37 32 true 36, zm 12 5 37, .g (.keep [1, 4, 5, 8, 9, 10])])))) (.reg 0 [zd 0 38 .add 10 1, zm 1 10 38, .g (.keep [1, 4, 5, 8, 9, 10])])))
def zcm.ir : C := .seq (.reg 0 [zb 0 4 false, zb 1 5 false, .g (.keep [0, 1, 4, 5])]) (.seq (.seq (.reg 0 [zm 0 8 0, zn 1 9 8, zk 2 10 0, .g (.keep [1, 4, 5, 8, 9, 10])]) (.block 0 (.loop zcm.b0))) (.seq (.reg 0 [zm 0 39 4, zm 1 40 5, zm 2 4 39, zm 3 5 40, .g (.keep [4, 5])]) (.ret)))
def zcm.rs : List Rs := [.sl 4, .sl 5]
theorem zcm.ok : isFn Tryz.prog zcm.id 41 zcm.ann zcm.ir zcm.rs := ⟨Tryz.f87, _, Tryz.func87, rfl, rfl, by kernel_rfl, by kernel_rfl⟩
def zcs.ann : List (Nat × RA) := [(0, rk [0, 1]), (1, rk [3])]
def zcs.ir : C := .seq (.reg 0 [zb 0 3 false, .g (.keep [0, 1])]) (.seq (.reg 0 [zm 0 4 0, zd 1 5 .lss 4 0, zm 2 6 5, ym 3 6 false 7 0, yl 4 6 false 8 1 1, ya 5 6 false 9 .geq 7 8, zp 6 10 6 true 9, zm 7 3 10, .g (.keep [3])]) (.ret))
def zcs.rs : List Rs := [.sl 3]
theorem zcs.ok : isFn Tryz.prog zcs.id 11 zcs.ann zcs.ir zcs.rs := ⟨Tryz.f88, _, Tryz.func88, rfl, rfl, by kernel_rfl, by kernel_rfl⟩
def zcH.ann : List (Nat × RA) := [(0, rk [2, 3]), (1, rk [2, 3, 5]), (2, rk [2, 3, 5, 18]), (3, rk [2, 3, 5]), (4, rk [2, 3, 5, 21]), (5, rk [2, 3, 5]), (6, rk [2, 3, 5, 24]), (7, rk [2, 3, 5]), (8, rk [2, 3, 5, 27]), (9, rk [2, 3, 5]), (10, rk [2, 3, 5, 30]), (11, rk [2, 3, 5]), (12, rk [4])]
def zcH.ir : C := .seq (.reg 2 [.o 0 (.box (some 2) 0 10 (.tmp 0)), .o 1 (.box (some 3) 1 10 (.tmp 1)), zb 2 4 false, .g (.keep [2, 3])]) (.seq (.reg 1 [zf 0 6 2 1, zl 1 7 1 6, zf 2 8 2 3, zl 3 9 1 8, zf 4 10 2 4, zl 5 11 1 10, zf 6 12 2 5, zl 7 13 1 12, zf 8 14 2 6, zl 9 15 1 14, .o 10 (.lt (some 16) (.build [.a (.int .i64 0), .a (.int .i64 0), .a (.int .i64 0), .a (.int .i64 0), .a (.int .i64 0)] [(0, 1, (.tmp 7)), (1, 1, (.tmp 9)), (2, 1, (.tmp 11)), (3, 1, (.tmp 13)), (4, 1, (.tmp 15))])), .o 11 (.alloc (some 5) 0 5 [.a (.int .i64 0), .a (.int .i64 0), .a (.int .i64 0), .a (.int .i64 0), .a (.int .i64 0)]), .o 12 (.store [] 5 (.tmp 5) (.tmp 16)), .g (.keep [2, 3, 5])]) (.seq (.seq (.reg 0 [zf 0 17 3 7, zl 1 18 1 17, .g (.keep [2, 3, 5, 18])]) (.cond (.tmp 18) (.reg 0 [zf 0 19 5 0, .o 1 (.store [] 1 (.tmp 19) (.const (.int .i64 0))), .g (.keep [2, 3, 5])]) (.skip))) (.seq (.seq (.reg 0 [zf 0 20 3 8, zl 1 21 1 20, .g (.keep [2, 3, 5, 21])]) (.cond (.tmp 21) (.reg 0 [zf 0 22 5 2, .o 1 (.store [] 1 (.tmp 22) (.const (.int .i64 0))), .g (.keep [2, 3, 5])]) (.skip))) (.seq (.seq (.reg 0 [zf 0 23 3 6, zl 1 24 1 23, .g (.keep [2, 3, 5, 24])]) (.cond (.tmp 24) (.reg 0 [zf 0 25 5 1, .o 1 (.store [] 1 (.tmp 25) (.const (.int .i64 0))), .g (.keep [2, 3, 5])]) (.skip))) (.seq (.seq (.reg 0 [zf 0 26 3 4, zl 1 27 1 26, .g (.keep [2, 3, 5, 27])]) (.cond (.tmp 27) (.reg 0 [zf 0 28 5 3, .o 1 (.store [] 1 (.tmp 28) (.const (.int .i64 0))), .g (.keep [2, 3, 5])]) (.skip))) (.seq (.seq (.reg 0 [zf 0 29 3 5, zl 1 30 1 29, .g (.keep [2, 3, 5, 30])]) (.cond (.tmp 30) (.reg 0 [zf 0 31 5 4, .o 1 (.store [] 1 (.tmp 31) (.const (.int .i64 0))), .g (.keep [2, 3, 5])]) (.skip))) (.seq (.reg 0 [zL 0 32 5 5, .o 1 (.lt (some 33) (.build [.a (.int .i64 0), .a (.int .i64 0), .a (.int .i64 0), .a (.int .i64 0), .a (.int .i64 0)] [])), .o 2 (.lt (some 34) (.eqD true [(0, 0), (1, 0), (2, 0), (3, 0), (4, 0)] (.tmp 32) (.tmp 33))), zm 3 35 34, yf 4 35 false 36 3 0, yl 5 35 false 37 1 36, yq 6 35 false 38 37, ym 7 35 false 39 38, yf 8 39 true 40 2 2, yl 9 39 true 41 1 40, yn 10 39 true 42 41, yd 11 39 true 43 .gtr 42 0, yr 12 35 false 44 39 43 false, zp 13 45 35 true 44, zm 14 46 45, yf 15 46 false 47 3 1, yl 16 46 false 48 1 47, yq 17 46 false 49 48, ym 18 46 false 50 49, yf 19 50 true 51 2 7, yl 20 50 true 52 1 51, yn 21 50 true 53 52, yd 22 50 true 54 .gtr 53 0, yr 23 46 false 55 50 54 false, zp 24 56 46 true 55, zm 25 57 56, yf 26 57 false 58 3 2, yl 27 57 false 59 1 58, yq 28 57 false 60 59, ym 29 57 false 61 60, yf 30 61 true 62 2 8, yl 31 61 true 63 1 62, yn 32 61 true 64 63, yd 33 61 true 65 .gtr 64 0, yr 34 57 false 66 61 65 false, zp 35 67 57 true 66, zm 36 68 67, yf 37 68 false 69 3 3, yl 38 68 false 70 1 69, yq 39 68 false 71 70, ym 40 68 false 72 71, yf 41 72 true 73 2 9, yl 42 72 true 74 1 73, yn 43 72 true 75 74, yd 44 72 true 76 .gtr 75 0, yr 45 68 false 77 72 76 false, zp 46 78 68 true 77, zm 47 4 78, .g (.keep [4])]) (.ret))))))))
def zcH.rs : List Rs := [.sl 4]
theorem zcH.ok : isFn Tryz.prog zcH.id 79 zcH.ann zcH.ir zcH.rs := ⟨Tryz.f89, _, Tryz.func89, rfl, rfl, by kernel_rfl, by kernel_rfl⟩
def zcb.ann : List (Nat × RA) := [(0, rk [0, 1]), (1, rk [4])]
def zcb.ir : C := .seq (.reg 0 [zb 0 4 false, .g (.keep [0, 1])]) (.seq (.reg 0 [zm 0 5 0, zq 1 6 5, zm 2 7 6, ym 3 7 false 8 1, yd 4 7 false 9 .geq 8 1, ym 5 7 false 10 9, ym 6 10 true 11 1, yd 7 10 true 12 .leq 11 64, yr 8 7 false 13 10 12 false, zp 9 14 7 true 13, zm 10 4 14, .g (.keep [4])]) (.ret))
def zcb.rs : List Rs := [.sl 4]
theorem zcb.ok : isFn Tryz.prog zcb.id 15 zcb.ann zcb.ir zcb.rs := ⟨Tryz.f90, _, Tryz.func90, rfl, rfl, by kernel_rfl, by kernel_rfl⟩
def zcO.ann : List (Nat × RA) := [(0, rk [2, 3]), (1, rp [4] [(18, [1000001])])]
def zcO.ir : C := .seq (.reg 2 [.o 0 (.box (some 2) 0 10 (.tmp 0)), .o 1 (.box (some 3) 1 10 (.tmp 1)), zb 2 4 false, .g (.keep [2, 3])]) (.seq (.reg 0 [zf 0 5 3 3, zl 1 6 1 5, zm 2 7 6, yf 3 7 true 8 2 7, yl 4 7 true 9 1 8, yn 5 7 true 10 9, yd 6 7 true 11 .gtr 10 8, ym 7 7 true 12 11, yf 8 12 false 13 2 9, yl 9 12 false 14 1 13, yn 10 12 false 15 14, .gd 11 12 false (some 16) (.call (some 16) zcb.id [(.const (.bool true)), (.tmp 15)]), yq 12 12 false 17 16, yp 13 7 true 18 12 true 17, ym 14 7 true 19 18, yf 15 19 false 20 2 9, yl 16 19 false 21 1 20, .gd 17 19 false (some 22) (.lt (some 22) (.mkfn (.func zcy.id) [] [(.tmp 2)])), .gd 18 19 false (some 23) (.callb (some 23) (.func zaI.id) [(.tmp 21), (.tmp 22)]), yp 19 7 true 24 19 true 23, zr 20 25 7 24 false, zm 21 4 25, .g (.keep [4])]) (.ret))
def zcO.rs : List Rs := [.sl 4]
theorem zcO.ok : isFn Tryz.prog zcO.id 26 zcO.ann zcO.ir zcO.rs := ⟨Tryz.f91, _, Tryz.func91, rfl, rfl, by kernel_rfl, by kernel_rfl⟩
def zaR.ann : List (Nat × RA) := [(0, rk [0, 1]), (1, rk [4])]
def zaR.ir : C := .seq (.reg 0 [zb 0 4 false, .g (.keep [0, 1])]) (.seq (.reg 0 [zm 0 5 0, zm 1 6 1, .o 2 (.call (some 7) zaX.id [(.tmp 5), (.tmp 6)]), zd 3 8 .geq 7 0, zm 4 4 8, .g (.keep [4])]) (.ret))
def zaR.rs : List Rs := [.sl 4]
theorem zaR.ok : isFn Tryz.prog zaR.id 9 zaR.ann zaR.ir zaR.rs := ⟨Tryz.f92, _, Tryz.func92, rfl, rfl, by kernel_rfl, by kernel_rfl⟩
def zb7.ann : List (Nat × RA) := [(0, rk [0, 1]), (1, rk [4])]
def zb7.ir : C := .seq (.reg 0 [zb 0 4 false, .g (.keep [0, 1])]) (.seq (.reg 0 [zm 0 5 0, zm 1 6 1, .o 2 (.lt (some 7) (.un .neg (.tmp 6))), za 3 8 .geq 5 7, zm 4 9 8, ym 5 9 true 10 0, ym 6 9 true 11 1, ya 7 9 true 12 .leq 10 11, zr 8 13 9 12 false, zm 9 4 13, .g (.keep [4])]) (.ret))
def zb7.rs : List Rs := [.sl 4]
theorem zb7.ok : isFn Tryz.prog zb7.id 14 zb7.ann zb7.ir zb7.rs := ⟨Tryz.f93, _, Tryz.func93, rfl, rfl, by kernel_rfl, by kernel_rfl⟩
def zcw.ann : List (Nat × RA) := [(0, rk [0]), (1, rk [2])]
def zcw.ir : C := .seq (.reg 0 [zb 0 2 false, .g (.keep [0])]) (.seq (.reg 0 [zm 0 3 0, .o 1 (.call (some 4) zaR.id [(.tmp 3), (.func zcn.id)]), zm 2 2 4, .g (.keep [2])]) (.ret))
def zcw.rs : List Rs := [.sl 2]
theorem zcw.ok : isFn Tryz.prog zcw.id 5 zcw.ann zcw.ir zcw.rs := ⟨Tryz.f94, _, Tryz.func94, rfl, rfl, by kernel_rfl, by kernel_rfl⟩
def zaI.ann : List (Nat × RA) := [(0, rk [0, 1]), (1, rk [4])]
def zaI.ir : C := .seq (.reg 0 [zb 0 4 false, .g (.keep [0, 1])]) (.seq (.reg 0 [zm 0 5 0, zm 1 6 1, .o 2 (.call (some 7) zaP.id [(.tmp 5), (.tmp 6)]), zd 3 8 .geq 7 0, zm 4 4 8, .g (.keep [4])]) (.ret))
def zaI.rs : List Rs := [.sl 4]
theorem zaI.ok : isFn Tryz.prog zaI.id 9 zaI.ann zaI.ir zaI.rs := ⟨Tryz.f95, _, Tryz.func95, rfl, rfl, by kernel_rfl, by kernel_rfl⟩
def zcQ.ann : List (Nat × RA) := [(0, rk [1, 2]), (1, ro [4] [0, 1, 2, 3, 4, 6, 7, 5, 8, 9])]
def zcQ.ir : C := .seq (.reg 1 [.o 0 (.box (some 2) 0 10 (.tmp 0)), zb 1 4 false, .g (.keep [1, 2])]) (.seq (.reg 0 [zf 0 5 2 1, zl 1 6 1 5, zf 2 7 2 2, zl 3 8 1 7, zm 4 9 1, zf 6 11 2 3, zl 7 12 1 11, .o 5 (.call (some 10) zcp.id [(.tmp 8), (.tmp 9)]), .o 8 (.call (some 13) zcP.id [(.tmp 6), (.tmp 10), (.tmp 12)]), zm 9 4 13, .g (.keep [4])]) (.ret))
def zcQ.rs : List Rs := [.sl 4]
theorem zcQ.ok : isFn Tryz.prog zcQ.id 14 zcQ.ann zcQ.ir zcQ.rs := ⟨Tryz.f96, _, Tryz.func96, rfl, rfl, by kernel_rfl, by kernel_rfl⟩
def zcj.ann : List (Nat × RA) := [(0, rk [1, 2]), (1, ro [4] [0, 1, 2, 4, 5, 6, 8, 9, 3, 7, 10, 11, 12])]
def zcj.ir : C := .seq (.reg 1 [.o 0 (.box (some 2) 0 10 (.tmp 0)), zb 1 4 false, .g (.keep [1, 2])]) (.seq (.reg 0 [zm 0 5 1, zf 1 6 2 5, zl 2 7 1 6, zm 4 9 1, zf 5 10 2 6, zl 6 11 1 10, zf 8 13 2 3, zl 9 14 1 13, .o 3 (.callv (some 8) (.tmp 5) [(.tmp 7)]), .o 7 (.callv (some 12) (.tmp 9) [(.tmp 11)]), za 10 15 .add 12 14, za 11 16 .neq 8 15, zm 12 4 16, .g (.keep [4])]) (.ret))
def zcj.rs : List Rs := [.sl 4]
theorem zcj.ok : isFn Tryz.prog zcj.id 17 zcj.ann zcj.ir zcj.rs := ⟨Tryz.f97, _, Tryz.func97, rfl, rfl, by kernel_rfl, by kernel_rfl⟩
def zch.ann : List (Nat × RA) := [(0, rk [1, 2]), (1, rp [2, 5] [(3, [1000002])]), (2, rp [2, 5] [(1, [1000000])]), (3, rq [4] [0, 3, 4, 5, 1, 2, 6, 7] [(1, [1000003, 2, 15, 16])])]
def zch.ir : C := .seq (.reg 1 [.o 0 (.box (some 2) 0 10 (.tmp 0)), zb 1 4 false, .g (.keep [1, 2])]) (.seq (.reg 0 [zf 0 6 2 7, zl 1 7 1 6, zm 2 8 1, .o 3 (.callo (some 9) (.func zb0.id) [(.tmp 7), (.tmp 8)]), zm 4 5 9, .g (.keep [2, 5])]) (.seq (.reg 0 [zm 0 10 5, .o 1 (.callm (some 11) (.func zbN.id) [(.tmp 10)]), .g (.keep [2, 5])]) (.seq (.reg 0 [zm 0 12 5, zf 3 15 2 7, zl 4 16 1 15, zn 5 17 16, .o 1 (.calla [2, 15, 16] (some 13) (.func zao.id) [(.tmp 12)]), zn 2 14 13, za 6 18 .eql 14 17, zm 7 4 18, .g (.keep [4])]) (.ret))))
def zch.rs : List Rs := [.sl 4]
theorem zch.ok : isFn Tryz.prog zch.id 19 zch.ann zch.ir zch.rs := ⟨Tryz.f98, _, Tryz.func98, rfl, rfl, by kernel_rfl, by kernel_rfl⟩
def zci.ann : List (Nat × RA) := [(0, rk [1, 2]), (1, rk [1, 2, 5]), (2, ro [4] [0, 1, 2, 3, 4, 5, 6, 7, 8, 9, 10, 11, 12, 14, 15, 16, 17, 18, 13, 19, 20, 21])]
def zci.ir : C := .seq (.reg 1 [.o 0 (.box (some 2) 0 10 (.tmp 0)), zb 1 4 false, .g (.keep [1, 2])]) (.seq (.reg 0 [zm 0 6 1, zf 1 7 2 5, zl 2 8 1 7, .o 3 (.callv (some 9) (.tmp 6) [(.tmp 8)]), zm 4 5 9, .g (.keep [1, 2, 5])]) (.seq (.reg 0 [zm 0 10 5, zd 1 11 .geq 10 0, zm 2 12 11, ym 3 12 true 13 5, yf 4 12 true 14 2 8, yl 5 12 true 15 1 14, yn 6 12 true 16 15, ya 7 12 true 17 .lss 13 16, zr 8 18 12 17 false, zm 9 19 18, ym 10 19 true 20 1, yf 11 19 true 21 2 6, yl 12 19 true 22 1 21, yf 14 19 true 24 2 8, yl 15 19 true 25 1 24, ym 16 19 true 26 5, yx 17 19 true 27 1 25 26, yl 18 19 true 28 1 27, .gd 13 19 true (some 23) (.callv (some 23) (.tmp 20) [(.tmp 22)]), ya 19 19 true 29 .eql 23 28, zr 20 30 19 29 false, zm 21 4 30, .g (.keep [4])]) (.ret)))
def zci.rs : List Rs := [.sl 4]
theorem zci.ok : isFn Tryz.prog zci.id 31 zci.ann zci.ir zci.rs := ⟨Tryz.f99, _, Tryz.func99, rfl, rfl, by kernel_rfl, by kernel_rfl⟩
def zck.ann : List (Nat × RA) := [(0, rk [1, 2]), (1, ro [4] [0, 1, 2, 4, 5, 6, 3, 7, 8, 9, 10])]
def zck.ir : C := .seq (.reg 1 [.o 0 (.box (some 2) 0 10 (.tmp 0)), zb 1 4 false, .g (.keep [1, 2])]) (.seq (.reg 0 [zm 0 5 1, zf 1 6 2 6, zl 2 7 1 6, zf 4 9 2 7, zl 5 10 1 9, zm 6 11 1, .o 3 (.callv (some 8) (.tmp 5) [(.tmp 7)]), .o 7 (.call (some 12) zb0.id [(.tmp 10), (.tmp 11)]), .o 8 (.call (some 13) zbn.id [(.tmp 12)]), za 9 14 .eql 8 13, zm 10 4 14, .g (.keep [4])]) (.ret))
def zck.rs : List Rs := [.sl 4]
theorem zck.ok : isFn Tryz.prog zck.id 15 zck.ann zck.ir zck.rs := ⟨Tryz.f100, _, Tryz.func100, rfl, rfl, by kernel_rfl, by kernel_rfl⟩
def zbn.ann : List (Nat × RA) := [(0, rk [0]), (1, rk [0, 7]), (2, rk [0]), (3, rk [0, 3]), (4, rk [0, 3, 4]), (5, rk [0, 3, 4, 15]), (6, rk [0, 3, 4]), (7, rk [0, 3, 4]), (8, rk [2])]
def zbn.b0 : C := .seq (.seq (.reg 0 [zm 0 12 4, zm 1 13 0, zn 2 14 13, za 3 15 .lss 12 14, .g (.keep [0, 3, 4, 15])]) (.cond (.tmp 15) (.skip) (.exit 0))) (.seq (.block 1 (.reg 0 [zm 0 18 3, zm 1 19 0, zm 2 20 4, zx 3 21 1 19 20, zl 4 22 1 21, .o 5 (.lt (some 23) (.mxm true [(.tmp 18), (.tmp 22)])), zm 6 3 23, .g (.keep [0, 3, 4])])) (.reg 0 [zm 0 16 4, zd 1 17 .add 16 1, zm 2 4 17, .g (.keep [0, 3, 4])]))
def zbn.ir : C := .seq (.reg 0 [zk 0 2 0, .g (.keep [0])]) (.seq (.seq (.reg 0 [zm 0 5 0, zn 1 6 5, zd 2 7 .lss 6 1, .g (.keep [0, 7])]) (.cond (.tmp 7) (.reg 0 [.o 0 (.lt (some 8) (.mkif 9 (.const (.string { data := #[115, 108, 105, 99, 101, 115, 46, 77, 97, 120, 58, 32, 101, 109, 112, 116, 121, 32, 108, 105, 115, 116] })))), .o 1 (.pan), .g (.keep [0])]) (.skip))) (.seq (.reg 0 [zm 0 9 0, .o 1 (.lt (some 10) (.ixS 1 (.tmp 9) (.const (.int .i64 0)))), zl 2 11 1 10, zm 3 3 11, .g (.keep [0, 3])]) (.seq (.seq (.reg 0 [zk 0 4 1, .g (.keep [0, 3, 4])]) (.block 0 (.loop zbn.b0))) (.seq (.reg 0 [zm 0 24 3, zm 1 2 24, .g (.keep [2])]) (.ret)))))
def zbn.rs : List Rs := [.sl 2]
theorem zbn.ok : isFn Tryz.prog zbn.id 25 zbn.ann zbn.ir zbn.rs := ⟨Tryz.f101, _, Tryz.func101, rfl, rfl, by kernel_rfl, by kernel_rfl⟩
def zb0.ann : List (Nat × RA) := [(0, rk [0, 1]), (1, rk [0, 1, 5]), (2, rk [1, 5, 8, 9, 10]), (3, rk [1, 5, 8, 9, 10, 11]), (4, rk [1, 5, 7, 8, 9, 10]), (5, rk [1, 5, 8, 9, 10]), (6, rk [1, 5, 8, 9, 10]), (7, { gs := [(0, [.nilv 5 1])], keep := some [4] })]
def zb0.b0 : C := .seq (.reg 0 [za 0 11 .lss 10 9, .g (.keep [1, 5, 8, 9, 10, 11])]) (.seq (.cond (.tmp 11) (.skip) (.exit 0)) (.seq (.block 1 (.seq (.reg 0 [zx 0 12 1 8 10, zl 1 13 1 12, zm 2 7 13, .g (.keep [1, 5, 7, 8, 9, 10])]) (.reg 2 [zm 0 14 5, zm 1 15 1, zm 2 16 7, .o 3 (.callv (some 17) (.tmp 15) [(.tmp 16)]), .o 4 (.bsl (some 18) 0 1 1 [.a (.int .i64 0)] [(0, (.tmp 17))]), .o 5 (.app [] (some 19) 1 1 8 (.tmp 14) (.tmp 18)), zm 6 5 19, .g (.keep [1, 5, 8, 9, 10])]))) (.reg 0 [zd 0 20 .add 10 1, zm 1 10 20, .g (.keep [1, 5, 8, 9, 10])])))
def zb0.ir : C := .seq (.reg 0 [.o 0 (.lt (some 4) (.mov (.const (.slice none 0 0)))), .g (.keep [0, 1])]) (.seq (.reg 0 [.o 0 (.lt (some 5) (.mov (.const (.slice none 0 0)))), .g (.keep [0, 1, 5])]) (.seq (.seq (.reg 0 [zm 0 8 0, zn 1 9 8, zk 2 10 0, .g (.keep [1, 5, 8, 9, 10])]) (.block 0 (.loop zb0.b0))) (.seq (.reg 0 [.g (.nilv 5 1), zm 0 21 5, zm 1 4 21, .g (.keep [4])]) (.ret))))
def zb0.rs : List Rs := [.sl 4]
theorem zb0.ok : isFn Tryz.prog zb0.id 22 zb0.ann zb0.ir zb0.rs := ⟨Tryz.f102, _, Tryz.func102, rfl, rfl, by kernel_rfl, by kernel_rfl⟩
def zcl.ann : List (Nat × RA) := [(0, rk [1, 2]), (1, ro [4] [0, 1, 2, 4, 5, 6, 3, 7, 8, 9, 10])]
def zcl.ir : C := .seq (.reg 1 [.o 0 (.box (some 2) 0 10 (.tmp 0)), zb 1 4 false, .g (.keep [1, 2])]) (.seq (.reg 0 [zm 0 5 1, zf 1 6 2 6, zl 2 7 1 6, zf 4 9 2 7, zl 5 10 1 9, zm 6 11 1, .o 3 (.callv (some 8) (.tmp 5) [(.tmp 7)]), .o 7 (.call (some 12) zb0.id [(.tmp 10), (.tmp 11)]), .o 8 (.call (some 13) zbo.id [(.tmp 12)]), za 9 14 .eql 8 13, zm 10 4 14, .g (.keep [4])]) (.ret))
def zcl.rs : List Rs := [.sl 4]
theorem zcl.ok : isFn Tryz.prog zcl.id 15 zcl.ann zcl.ir zcl.rs := ⟨Tryz.f103, _, Tryz.func103, rfl, rfl, by kernel_rfl, by kernel_rfl⟩
def zbo.ann : List (Nat × RA) := [(0, rk [0]), (1, rk [0, 7]), (2, rk [0]), (3, rk [0, 3]), (4, rk [0, 3, 4]), (5, rk [0, 3, 4, 15]), (6, rk [0, 3, 4]), (7, rk [0, 3, 4]), (8, rk [2])]
def zbo.b0 : C := .seq (.seq (.reg 0 [zm 0 12 4, zm 1 13 0, zn 2 14 13, za 3 15 .lss 12 14, .g (.keep [0, 3, 4, 15])]) (.cond (.tmp 15) (.skip) (.exit 0))) (.seq (.block 1 (.reg 0 [zm 0 18 3, zm 1 19 0, zm 2 20 4, zx 3 21 1 19 20, zl 4 22 1 21, .o 5 (.lt (some 23) (.mxm false [(.tmp 18), (.tmp 22)])), zm 6 3 23, .g (.keep [0, 3, 4])])) (.reg 0 [zm 0 16 4, zd 1 17 .add 16 1, zm 2 4 17, .g (.keep [0, 3, 4])]))
def zbo.ir : C := .seq (.reg 0 [zk 0 2 0, .g (.keep [0])]) (.seq (.seq (.reg 0 [zm 0 5 0, zn 1 6 5, zd 2 7 .lss 6 1, .g (.keep [0, 7])]) (.cond (.tmp 7) (.reg 0 [.o 0 (.lt (some 8) (.mkif 9 (.const (.string { data := #[115, 108, 105, 99, 101, 115, 46, 77, 105, 110, 58, 32, 101, 109, 112, 116, 121, 32, 108, 105, 115, 116] })))), .o 1 (.pan), .g (.keep [0])]) (.skip))) (.seq (.reg 0 [zm 0 9 0, .o 1 (.lt (some 10) (.ixS 1 (.tmp 9) (.const (.int .i64 0)))), zl 2 11 1 10, zm 3 3 11, .g (.keep [0, 3])]) (.seq (.seq (.reg 0 [zk 0 4 1, .g (.keep [0, 3, 4])]) (.block 0 (.loop zbo.b0))) (.seq (.reg 0 [zm 0 24 3, zm 1 2 24, .g (.keep [2])]) (.ret)))))
def zbo.rs : List Rs := [.sl 2]
theorem zbo.ok : isFn Tryz.prog zbo.id 25 zbo.ann zbo.ir zbo.rs := ⟨Tryz.f104, _, Tryz.func104, rfl, rfl, by kernel_rfl, by kernel_rfl⟩
def zcK.ann : List (Nat × RA) := [(0, rk [1, 2]), (1, rk [1, 2, 5]), (2, ro [5, 16] [0, 1, 2, 4, 5, 3, 6]), (3, rk [4]), (4, rk [4])]
def zcK.ir : C := .seq (.reg 1 [.o 0 (.box (some 2) 0 10 (.tmp 0)), zb 1 4 false, .g (.keep [1, 2])]) (.seq (.reg 0 [zm 0 6 1, zf 1 7 2 5, zl 2 8 1 7, .o 3 (.callv (some 9) (.tmp 6) [(.tmp 8)]), zm 4 5 9, .g (.keep [1, 2, 5])]) (.seq (.seq (.reg 0 [zf 0 10 2 2, zl 1 11 1 10, zm 2 12 1, zf 4 14 2 3, zl 5 15 1 14, .o 3 (.call (some 13) zcp.id [(.tmp 11), (.tmp 12)]), za 6 16 .leq 13 15, .g (.keep [5, 16])]) (.cond (.tmp 16) (.seq (.reg 0 [zm 0 17 5, zd 1 18 .eql 17 1, zm 2 4 18, .g (.keep [4])]) (.ret)) (.skip))) (.seq (.reg 0 [zm 0 19 5, zd 1 20 .eql 19 0, zm 2 4 20, .g (.keep [4])]) (.ret))))
def zcK.rs : List Rs := [.sl 4]
theorem zcK.ok : isFn Tryz.prog zcK.id 21 zcK.ann zcK.ir zcK.rs := ⟨Tryz.f105, _, Tryz.func105, rfl, rfl, by kernel_rfl, by kernel_rfl⟩
def zcC.ann : List (Nat × RA) := [(0, rk [1, 2]), (1, rk [2, 5]), (2, rp [4] [(3, [1000001])])]
def zcC.ir : C := .seq (.reg 1 [.o 0 (.box (some 2) 0 10 (.tmp 0)), zb 1 4 false, .g (.keep [1, 2])]) (.seq (.reg 1 [zf 0 6 2 7, zl 1 7 1 6, zm 2 8 1, .o 3 (.call (some 9) zb0.id [(.tmp 7), (.tmp 8)]), .o 4 (.alloc (some 5) 0 1 [.a (.slice none 0 0)]), .o 5 (.store [] 1 (.tmp 5) (.tmp 9)), .g (.keep [2, 5])]) (.seq (.reg 0 [zf 0 10 2 9, zl 1 11 1 10, .o 2 (.lt (some 12) (.mkfn (.func zco.id) [] [(.tmp 5)])), .o 3 (.callb (some 13) (.func zaI.id) [(.tmp 11), (.tmp 12)]), zm 4 4 13, .g (.keep [4])]) (.ret)))
def zcC.rs : List Rs := [.sl 4]
theorem zcC.ok : isFn Tryz.prog zcC.id 14 zcC.ann zcC.ir zcC.rs := ⟨Tryz.f106, _, Tryz.func106, rfl, rfl, by kernel_rfl, by kernel_rfl⟩
def zcd.ann : List (Nat × RA) := [(0, rk [1, 2]), (1, rk [1, 2, 5]), (2, rk [2, 5, 11, 12, 13]), (3, rk [2, 5, 11, 12, 13, 14]), (4, rk [2, 5, 7, 11, 12, 13]), (5, rk [2, 5, 11, 12, 13, 20]), (6, rk [2, 5, 11, 12, 13]), (7, rk [2, 5, 11, 12, 13]), (8, rk [4])]
def zcd.b0 : C := .seq (.reg 0 [za 0 14 .lss 13 12, .g (.keep [2, 5, 11, 12, 13, 14])]) (.seq (.cond (.tmp 14) (.skip) (.exit 0)) (.seq (.block 1 (.seq (.reg 0 [zx 0 15 1 11 13, zl 1 16 1 15, zm 2 7 16, .g (.keep [2, 5, 7, 11, 12, 13])]) (.seq (.reg 0 [zm 0 17 7, zf 1 18 2 4, zl 2 19 1 18, za 3 20 .eql 17 19, .g (.keep [2, 5, 11, 12, 13, 20])]) (.cond (.tmp 20) (.reg 0 [zm 0 21 5, zd 1 22 .add 21 1, zm 2 5 22, .g (.keep [2, 5, 11, 12, 13])]) (.skip))))) (.reg 0 [zd 0 23 .add 13 1, zm 1 13 23, .g (.keep [2, 5, 11, 12, 13])])))
def zcd.ir : C := .seq (.reg 1 [.o 0 (.box (some 2) 0 10 (.tmp 0)), zb 1 4 false, .g (.keep [1, 2])]) (.seq (.reg 0 [zk 0 5 0, .g (.keep [1, 2, 5])]) (.seq (.seq (.reg 0 [zf 0 8 2 7, zl 1 9 1 8, zm 2 10 1, .o 3 (.call (some 11) zb0.id [(.tmp 9), (.tmp 10)]), zn 4 12 11, zk 5 13 0, .g (.keep [2, 5, 11, 12, 13])]) (.block 0 (.loop zcd.b0))) (.seq (.reg 0 [zf 0 24 2 1, zl 1 25 1 24, zm 2 26 5, zf 3 27 2 3, zl 4 28 1 27, .o 5 (.call (some 29) zcP.id [(.tmp 25), (.tmp 26), (.tmp 28)]), zm 6 4 29, .g (.keep [4])]) (.ret))))
def zcd.rs : List Rs := [.sl 4]
theorem zcd.ok : isFn Tryz.prog zcd.id 30 zcd.ann zcd.ir zcd.rs := ⟨Tryz.f107, _, Tryz.func107, rfl, rfl, by kernel_rfl, by kernel_rfl⟩
def zbe.ann : List (Nat × RA) := [(0, rk [0, 1]), (1, rk [0, 1, 10]), (2, rk [4]), (3, rk [0, 1, 5]), (4, rk [0, 1, 5, 14]), (5, rk [0, 1, 5]), (6, ro [0, 1, 5, 26] [0, 1, 2, 3, 4, 5, 6, 7, 8, 9]), (7, rk [4]), (8, rk [4])]
def zbe.b0 : C := .seq (.seq (.reg 0 [zm 0 11 5, zm 1 12 0, zn 2 13 12, za 3 14 .lss 11 13, .g (.keep [0, 1, 5, 14])]) (.cond (.tmp 14) (.skip) (.exit 0))) (.seq (.block 1 (.seq (.reg 0 [zm 0 17 0, zm 1 18 5, zx 2 19 1 17 18, zl 3 20 1 19, zm 4 21 1, zm 5 22 5, zx 6 23 1 21 22, zl 7 24 1 23, .o 8 (.call (some 25) za7.id [(.tmp 20), (.tmp 24)]), zq 9 26 25, .g (.keep [0, 1, 5, 26])]) (.cond (.tmp 26) (.seq (.reg 0 [zb 0 4 false, .g (.keep [4])]) (.ret)) (.skip)))) (.reg 0 [zm 0 15 5, zd 1 16 .add 15 1, zm 2 5 16, .g (.keep [0, 1, 5])]))
def zbe.ir : C := .seq (.reg 0 [zb 0 4 false, .g (.keep [0, 1])]) (.seq (.seq (.reg 0 [zm 0 6 0, zn 1 7 6, zm 2 8 1, zn 3 9 8, za 4 10 .neq 7 9, .g (.keep [0, 1, 10])]) (.cond (.tmp 10) (.seq (.reg 0 [zb 0 4 false, .g (.keep [4])]) (.ret)) (.skip))) (.seq (.seq (.reg 0 [zk 0 5 0, .g (.keep [0, 1, 5])]) (.block 0 (.loop zbe.b0))) (.seq (.reg 0 [zb 0 4 true, .g (.keep [4])]) (.ret))))
def zbe.rs : List Rs := [.sl 4]
theorem zbe.ok : isFn Tryz.prog zbe.id 27 zbe.ann zbe.ir zbe.rs := ⟨Tryz.f108, _, Tryz.func108, rfl, rfl, by kernel_rfl, by kernel_rfl⟩
def za7.ann : List (Nat × RA) := [(0, rk [0, 1]), (1, rk [0, 1, 10]), (2, rk [4]), (3, rk [0, 1, 5]), (4, rk [0, 1, 5, 14]), (5, rk [0, 1, 5]), (6, ro [0, 1, 5, 25] [0, 1, 2, 3, 4, 5, 6, 7, 8]), (7, rk [4]), (8, rk [4])]
def za7.b0 : C := .seq (.seq (.reg 0 [zm 0 11 5, zm 1 12 0, zn 2 13 12, za 3 14 .lss 11 13, .g (.keep [0, 1, 5, 14])]) (.cond (.tmp 14) (.skip) (.exit 0))) (.seq (.block 1 (.seq (.reg 0 [zm 0 17 0, zm 1 18 5, zx 2 19 1 17 18, zl 3 20 1 19, zm 4 21 1, zm 5 22 5, zx 6 23 1 21 22, zl 7 24 1 23, za 8 25 .neq 20 24, .g (.keep [0, 1, 5, 25])]) (.cond (.tmp 25) (.seq (.reg 0 [zb 0 4 false, .g (.keep [4])]) (.ret)) (.skip)))) (.reg 0 [zm 0 15 5, zd 1 16 .add 15 1, zm 2 5 16, .g (.keep [0, 1, 5])]))
def za7.ir : C := .seq (.reg 0 [zb 0 4 false, .g (.keep [0, 1])]) (.seq (.seq (.reg 0 [zm 0 6 0, zn 1 7 6, zm 2 8 1, zn 3 9 8, za 4 10 .neq 7 9, .g (.keep [0, 1, 10])]) (.cond (.tmp 10) (.seq (.reg 0 [zb 0 4 false, .g (.keep [4])]) (.ret)) (.skip))) (.seq (.seq (.reg 0 [zk 0 5 0, .g (.keep [0, 1, 5])]) (.block 0 (.loop za7.b0))) (.seq (.reg 0 [zb 0 4 true, .g (.keep [4])]) (.ret))))
def za7.rs : List Rs := [.sl 4]
theorem za7.ok : isFn Tryz.prog za7.id 26 za7.ann za7.ir za7.rs := ⟨Tryz.f109, _, Tryz.func109, rfl, rfl, by kernel_rfl, by kernel_rfl⟩
def zaW.ann : List (Nat × RA) := [(0, rk [0, 1, 2]), (1, rp [0, 1, 2, 7] [(0, [1000004])]), (2, { gs := [(0, [.wk])], keep := some [0, 1, 2, 7] }), (3, rk [0, 1, 2, 7, 8]), (4, rk [0, 1, 2, 7, 8, 15]), (5, rk [0, 1, 2, 7, 8]), (6, rp [0, 1, 2, 7, 8] [(4, [1000004])]), (7, { gs := [(0, [.frz 7])], keep := some [0, 1, 7], aps := [(6, [1000004])] }), (8, rp [1, 7] [(7, [1000004])]), (9, rk [6])]
def zaW.b0 : C := .seq (.seq (.reg 0 [zm 0 13 8, zm 1 14 2, za 2 15 .lss 13 14, .g (.keep [0, 1, 2, 7, 8, 15])]) (.cond (.tmp 15) (.skip) (.exit 0))) (.seq (.block 1 (.reg 2 [zm 0 18 7, zm 1 19 8, .o 2 (.call (some 20) zaZ.id [(.tmp 19)]), .o 3 (.lt (some 21) (.build [.a (.string ⟨#[]⟩), .a (.int .i64 0), .a (.int .i64 0)] [(1, 1, (.tmp 20))])), .o 4 (.bsv (some 22) 3 1 [.a (.string ⟨#[]⟩), .a (.int .i64 0), .a (.int .i64 0)] [(0, (.tmp 21))]), .o 5 (.app [] (some 23) 1 3 32 (.tmp 18) (.tmp 22)), zm 6 7 23, .g (.keep [0, 1, 2, 7, 8])])) (.reg 0 [zm 0 16 8, zd 1 17 .add 16 1, zm 2 8 17, .g (.keep [0, 1, 2, 7, 8])]))
def zaW.ir : C := .seq (.reg 0 [.o 0 (.lt (some 6) (.mov (.const (.slice none 0 0)))), .g (.keep [0, 1, 2])]) (.seq (.reg 1 [.o 0 (.bsv (some 9) 3 0 [.a (.string ⟨#[]⟩), .a (.int .i64 0), .a (.int .i64 0)] []), zm 1 7 9, .g (.keep [0, 1, 2, 7])]) (.seq (.reg 1 [.g (.wk), zm 0 10 7, zm 1 11 1, .o 2 (.app [] (some 12) 0 3 32 (.tmp 10) (.tmp 11)), zm 3 7 12, .g (.keep [0, 1, 2, 7])]) (.seq (.seq (.reg 0 [zk 0 8 0, .g (.keep [0, 1, 2, 7, 8])]) (.block 0 (.loop zaW.b0))) (.seq (.reg 2 [.g (.frz 7), zm 0 24 0, zm 1 25 0, zc 2 26 25, zf 3 27 26 6, zl 4 28 1 27, zm 5 29 7, .o 6 (.bsv (some 30) 1 1 [.a (.slice none 0 0)] [(0, (.tmp 29))]), .o 7 (.app [] (some 31) 1 1 24 (.tmp 28) (.tmp 30)), zc 8 32 24, zf 9 33 32 6, .o 10 (.store [] 1 (.tmp 33) (.tmp 31)), .g (.keep [0, 1, 7])]) (.seq (.reg 2 [zm 0 34 0, zm 1 35 0, zc 2 36 35, zf 3 37 36 7, zl 4 38 1 37, zm 5 39 1, zn 6 40 39, .o 7 (.bsv (some 41) 1 1 [.a (.int .i64 0)] [(0, (.tmp 40))]), .o 8 (.app [] (some 42) 1 1 8 (.tmp 38) (.tmp 41)), zc 9 43 34, zf 10 44 43 7, .o 11 (.store [] 1 (.tmp 44) (.tmp 42)), .g (.keep [1, 7])]) (.seq (.reg 0 [zm 0 45 7, zm 1 46 1, zn 2 47 46, zm 3 48 7, zn 4 49 48, .o 5 (.lt (some 50) (.slM 3 (.tmp 45) (.tmp 47) (.tmp 49))), zm 6 6 50, .g (.keep [6])]) (.ret)))))))
def zaW.rs : List Rs := [.sl 6]
theorem zaW.ok : isFn Tryz.prog zaW.id 51 zaW.ann zaW.ir zaW.rs := ⟨Tryz.f111, _, Tryz.func111, rfl, rfl, by kernel_rfl, by kernel_rfl⟩
def zaJ.ann : List (Nat × RA) := [(0, rk [0, 1, 2]), (1, rp [0, 1, 2, 7] [(0, [1000004])]), (2, { gs := [(0, [.wk])], keep := some [0, 1, 2, 7, 8] }), (3, rk [0, 1, 2, 7, 8, 14]), (4, rk [0, 1, 2, 7, 8]), (5, rp [0, 1, 2, 7, 8] [(6, [1000000]), (7, [1000004])]), (6, rk [0, 1, 2, 7, 9]), (7, rk [0, 1, 2, 7, 9, 28]), (8, rk [0, 1, 2, 7, 9]), (9, rp [0, 1, 2, 7, 9] [(4, [1000004])]), (10, { gs := [(0, [.frz 7])], keep := some [0, 1, 7], aps := [(6, [1000004])] }), (11, rp [1, 7] [(7, [1000004])]), (12, rk [6])]
def zaJ.b1 : C := .seq (.seq (.reg 0 [zm 0 26 9, zm 1 27 2, za 2 28 .lss 26 27, .g (.keep [0, 1, 2, 7, 9, 28])]) (.cond (.tmp 28) (.skip) (.exit 2))) (.seq (.block 3 (.reg 2 [zm 0 31 7, zm 1 32 9, .o 2 (.call (some 33) zaZ.id [(.tmp 32)]), .o 3 (.lt (some 34) (.build [.a (.int .i64 0), .a (.int .i64 0), .a (.slice none 0 0), .a (.int .i64 0), .a (.int .i64 0), .a (.int .i64 0), .a (.int .i64 0), .a (.slice none 0 0), .a (.slice none 0 0), .a (.slice none 0 0)] [(5, 1, (.tmp 33))])), .o 4 (.bsv (some 35) 10 1 [.a (.int .i64 0), .a (.int .i64 0), .a (.slice none 0 0), .a (.int .i64 0), .a (.int .i64 0), .a (.int .i64 0), .a (.int .i64 0), .a (.slice none 0 0), .a (.slice none 0 0), .a (.slice none 0 0)] [(0, (.tmp 34))]), .o 5 (.app [] (some 36) 1 10 144 (.tmp 31) (.tmp 35)), zm 6 7 36, .g (.keep [0, 1, 2, 7, 9])])) (.reg 0 [zm 0 29 9, zd 1 30 .add 29 1, zm 2 9 30, .g (.keep [0, 1, 2, 7, 9])]))
def zaJ.b0 : C := .seq (.seq (.reg 0 [zm 0 11 8, zm 1 12 1, zn 2 13 12, za 3 14 .lss 11 13, .g (.keep [0, 1, 2, 7, 8, 14])]) (.cond (.tmp 14) (.skip) (.exit 0))) (.seq (.block 1 (.reg 2 [zm 0 17 7, zm 1 18 0, zm 2 19 1, zm 3 20 8, zx 4 21 10 19 20, zL 5 22 10 21, .o 6 (.callm (some 23) (.func zbG.id) [(.tmp 18), (.tmp 22)]), .o 7 (.bsv (some 24) 10 1 [.a (.int .i64 0), .a (.int .i64 0), .a (.slice none 0 0), .a (.int .i64 0), .a (.int .i64 0), .a (.int .i64 0), .a (.int .i64 0), .a (.slice none 0 0), .a (.slice none 0 0), .a (.slice none 0 0)] [(0, (.tmp 23))]), .o 8 (.app [] (some 25) 1 10 144 (.tmp 17) (.tmp 24)), zm 9 7 25, .g (.keep [0, 1, 2, 7, 8])])) (.reg 0 [zm 0 15 8, zd 1 16 .add 15 1, zm 2 8 16, .g (.keep [0, 1, 2, 7, 8])]))
def zaJ.ir : C := .seq (.reg 0 [.o 0 (.lt (some 6) (.mov (.const (.slice none 0 0)))), .g (.keep [0, 1, 2])]) (.seq (.reg 1 [.o 0 (.bsv (some 10) 10 0 [.a (.int .i64 0), .a (.int .i64 0), .a (.slice none 0 0), .a (.int .i64 0), .a (.int .i64 0), .a (.int .i64 0), .a (.int .i64 0), .a (.slice none 0 0), .a (.slice none 0 0), .a (.slice none 0 0)] []), zm 1 7 10, .g (.keep [0, 1, 2, 7])]) (.seq (.seq (.reg 0 [.g (.wk), zk 0 8 0, .g (.keep [0, 1, 2, 7, 8])]) (.block 0 (.loop zaJ.b0))) (.seq (.seq (.reg 0 [zk 0 9 0, .g (.keep [0, 1, 2, 7, 9])]) (.block 2 (.loop zaJ.b1))) (.seq (.reg 2 [.g (.frz 7), zm 0 37 0, zm 1 38 0, zc 2 39 38, zf 3 40 39 18, zl 4 41 1 40, zm 5 42 7, .o 6 (.bsv (some 43) 1 1 [.a (.slice none 0 0)] [(0, (.tmp 42))]), .o 7 (.app [] (some 44) 1 1 24 (.tmp 41) (.tmp 43)), zc 8 45 37, zf 9 46 45 18, .o 10 (.store [] 1 (.tmp 46) (.tmp 44)), .g (.keep [0, 1, 7])]) (.seq (.reg 2 [zm 0 47 0, zm 1 48 0, zc 2 49 48, zf 3 50 49 19, zl 4 51 1 50, zm 5 52 1, zn 6 53 52, .o 7 (.bsv (some 54) 1 1 [.a (.int .i64 0)] [(0, (.tmp 53))]), .o 8 (.app [] (some 55) 1 1 8 (.tmp 51) (.tmp 54)), zc 9 56 47, zf 10 57 56 19, .o 11 (.store [] 1 (.tmp 57) (.tmp 55)), .g (.keep [1, 7])]) (.seq (.reg 0 [zm 0 58 7, zm 1 59 1, zn 2 60 59, zm 3 61 7, zn 4 62 61, .o 5 (.lt (some 63) (.slM 10 (.tmp 58) (.tmp 60) (.tmp 62))), zm 6 6 63, .g (.keep [6])]) (.ret)))))))
def zaJ.rs : List Rs := [.sl 6]
theorem zaJ.ok : isFn Tryz.prog zaJ.id 64 zaJ.ann zaJ.ir zaJ.rs := ⟨Tryz.f112, _, Tryz.func112, rfl, rfl, by kernel_rfl, by kernel_rfl⟩
def zbg.ann : List (Nat × RA) := [(0, rk [0]), (1, rk [0, 17]), (2, rk [2]), (3, rk [0, 3]), (4, rk [0, 3, 21]), (5, rk [0, 3]), (6, rk [0, 3, 40]), (7, rk [2]), (8, rk [2])]
def zbg.b0 : C := .seq (.seq (.reg 0 [zm 0 18 3, zm 1 19 0, .o 2 (.lt (some 20) (.lenStr (.tmp 19))), za 3 21 .lss 18 20, .g (.keep [0, 3, 21])]) (.cond (.tmp 21) (.skip) (.exit 0))) (.seq (.block 1 (.seq (.reg 0 [zm 0 24 0, zm 1 25 3, .o 2 (.lt (some 26) (.ixStr (.tmp 24) (.tmp 25))), .o 3 (.call (some 27) zbM.id [(.tmp 26)]), zq 4 28 27, zm 5 29 28, ym 6 29 true 30 0, ym 7 29 true 31 3, .gd 8 29 true (some 32) (.lt (some 32) (.ixStr (.tmp 30) (.tmp 31))), .gd 9 29 true (some 33) (.lt (some 33) (.bin .lss (.tmp 32) (.const (.int .u8 48)))), ym 10 29 true 34 33, ym 11 34 false 35 0, ym 12 34 false 36 3, .gd 13 34 false (some 37) (.lt (some 37) (.ixStr (.tmp 35) (.tmp 36))), .gd 14 34 false (some 38) (.lt (some 38) (.bin .gtr (.tmp 37) (.const (.int .u8 57)))), yp 15 29 true 39 34 true 38, zr 16 40 29 39 false, .g (.keep [0, 3, 40])]) (.cond (.tmp 40) (.seq (.reg 0 [zb 0 2 false, .g (.keep [2])]) (.ret)) (.skip)))) (.reg 0 [zm 0 22 3, zd 1 23 .add 22 1, zm 2 3 23, .g (.keep [0, 3])]))
def zbg.ir : C := .seq (.reg 0 [zb 0 2 false, .g (.keep [0])]) (.seq (.seq (.reg 0 [zm 0 4 0, .o 1 (.lt (some 5) (.lenStr (.tmp 4))), zd 2 6 .lss 5 1, zm 3 7 6, ym 4 7 false 8 0, .gd 5 7 false (some 9) (.lt (some 9) (.lenStr (.tmp 8))), yd 6 7 false 10 .gtr 9 16, zp 7 11 7 true 10, zm 8 12 11, ym 9 12 false 13 0, .gd 10 12 false (some 14) (.lt (some 14) (.ixStr (.tmp 13) (.const (.int .i64 0)))), .gd 11 12 false (some 15) (.call (some 15) zbM.id [(.tmp 14)]), yq 12 12 false 16 15, zp 13 17 12 true 16, .g (.keep [0, 17])]) (.cond (.tmp 17) (.seq (.reg 0 [zb 0 2 false, .g (.keep [2])]) (.ret)) (.skip))) (.seq (.seq (.reg 0 [zk 0 3 1, .g (.keep [0, 3])]) (.block 0 (.loop zbg.b0))) (.seq (.reg 0 [zb 0 2 true, .g (.keep [2])]) (.ret))))
def zbg.rs : List Rs := [.sl 2]
theorem zbg.ok : isFn Tryz.prog zbg.id 41 zbg.ann zbg.ir zbg.rs := ⟨Tryz.f113, _, Tryz.func113, rfl, rfl, by kernel_rfl, by kernel_rfl⟩
def zbx.ann : List (Nat × RA) := [(0, rk [0, 1]), (1, rk [4])]
def zbx.ir : C := .seq (.reg 0 [zb 0 4 false, .g (.keep [0, 1])]) (.seq (.reg 0 [zm 0 5 0, .o 1 (.call (some 6) zbR.id [(.tmp 5), (.const (.int .i64 1000000000))]), zm 2 7 6, ym 3 7 true 8 1, .gd 4 7 true (some 9) (.call (some 9) zbR.id [(.tmp 8), (.const (.int .i64 1000000000))]), zr 5 10 7 9 false, zm 6 11 10, ym 7 11 true 12 0, ym 8 11 true 13 1, ya 9 11 true 14 .leq 12 13, zr 10 15 11 14 false, zm 11 16 15, ym 12 16 true 17 1, ym 13 16 true 18 0, ya 14 16 true 19 .sub 17 18, yd 15 16 true 20 .lss 19 64, zr 16 21 16 20 false, zm 17 4 21, .g (.keep [4])]) (.ret))
def zbx.rs : List Rs := [.sl 4]
theorem zbx.ok : isFn Tryz.prog zbx.id 22 zbx.ann zbx.ir zbx.rs := ⟨Tryz.f114, _, Tryz.func114, rfl, rfl, by kernel_rfl, by kernel_rfl⟩
def zbX.ann : List (Nat × RA) := [(0, rk [0]), (1, rk [2])]
def zbX.ir : C := .seq (.reg 0 [zb 0 2 false, .g (.keep [0])]) (.seq (.reg 0 [zm 0 3 0, zd 1 4 .neq 3 0, zm 2 5 4, ym 3 5 true 6 0, .gd 4 5 true (some 7) (.call (some 7) zbR.id [(.tmp 6), (.const (.int .i64 1000000))]), zr 5 8 5 7 false, zm 6 2 8, .g (.keep [2])]) (.ret))
def zbX.rs : List Rs := [.sl 2]
theorem zbX.ok : isFn Tryz.prog zbX.id 9 zbX.ann zbX.ir zbX.rs := ⟨Tryz.f115, _, Tryz.func115, rfl, rfl, by kernel_rfl, by kernel_rfl⟩
def zcc.ann : List (Nat × RA) := [(0, rk [0]), (1, rk [0, 7]), (2, rk [0, 7, 8, 9]), (3, rk [0, 3, 4, 7]), (4, rk [0, 3, 4, 5, 7]), (5, rk [0, 7, 43]), (6, rk [2]), (7, rk [2])]
def zcc.b0 : C := .seq (.reg 0 [.o 0 (.nxt (some 8) (.tmp 7)), ze 1 9 8 0, .g (.keep [0, 7, 8, 9])]) (.seq (.cond (.tmp 9) (.skip) (.exit 0)) (.block 1 (.seq (.reg 0 [ze 0 10 8 1, ze 1 11 8 2, zm 2 3 10, zm 3 4 11, .g (.keep [0, 3, 4, 7])]) (.seq (.reg 0 [zm 0 12 4, .o 1 (.lt (some 13) (.bin .geq (.tmp 12) (.const (.int .i32 97)))), zm 2 14 13, ym 3 14 true 15 4, .gd 4 14 true (some 16) (.lt (some 16) (.bin .leq (.tmp 15) (.const (.int .i32 122)))), zr 5 17 14 16 false, zm 6 18 17, ym 7 18 false 19 4, .gd 8 18 false (some 20) (.lt (some 20) (.bin .geq (.tmp 19) (.const (.int .i32 65)))), ym 9 18 false 21 20, ym 10 21 true 22 4, .gd 11 21 true (some 23) (.lt (some 23) (.bin .leq (.tmp 22) (.const (.int .i32 90)))), yr 12 18 false 24 21 23 false, zp 13 25 18 true 24, zm 14 26 25, ym 15 26 false 27 4, .gd 16 26 false (some 28) (.lt (some 28) (.bin .eql (.tmp 27) (.const (.int .i32 95)))), zp 17 29 26 true 28, zm 18 5 29, .g (.keep [0, 3, 4, 5, 7])]) (.seq (.reg 0 [zm 0 30 5, zq 1 31 30, zm 2 32 31, ym 3 32 true 33 3, yd 4 32 true 34 .eql 33 0, ym 5 32 true 35 34, ym 6 35 false 36 4, .gd 7 35 false (some 37) (.lt (some 37) (.bin .lss (.tmp 36) (.const (.int .i32 48)))), yp 8 32 true 38 35 true 37, ym 9 32 true 39 38, ym 10 39 false 40 4, .gd 11 39 false (some 41) (.lt (some 41) (.bin .gtr (.tmp 40) (.const (.int .i32 57)))), yp 12 32 true 42 39 true 41, zr 13 43 32 42 false, .g (.keep [0, 7, 43])]) (.cond (.tmp 43) (.seq (.reg 0 [zb 0 2 false, .g (.keep [2])]) (.ret)) (.skip)))))))
def zcc.ir : C := .seq (.reg 0 [zb 0 2 false, .g (.keep [0])]) (.seq (.seq (.reg 1 [zm 0 6 0, .o 1 (.rng (some 7) 0 (.tmp 6)), .g (.keep [0, 7])]) (.block 0 (.loop zcc.b0))) (.seq (.reg 0 [zm 0 44 0, .o 1 (.lt (some 45) (.lenStr (.tmp 44))), zd 2 46 .geq 45 1, zm 3 47 46, ym 4 47 true 48 0, .gd 5 47 true (some 49) (.lt (some 49) (.lenStr (.tmp 48))), yd 6 47 true 50 .leq 49 16, zr 7 51 47 50 false, zm 8 2 51, .g (.keep [2])]) (.ret)))
def zcc.rs : List Rs := [.sl 2]
theorem zcc.ok : isFn Tryz.prog zcc.id 52 zcc.ann zcc.ir zcc.rs := ⟨Tryz.f116, _, Tryz.func116, rfl, rfl, by kernel_rfl, by kernel_rfl⟩
def zau.ann : List (Nat × RA) := [(0, rk [0, 1]), (1, rk [4])]
def zau.ir : C := .seq (.reg 0 [zb 0 4 false, .g (.keep [0, 1])]) (.seq (.reg 0 [zm 0 5 0, zm 1 6 1, .o 2 (.call (some 7) zam.id [(.tmp 5), (.tmp 6)]), zd 3 8 .geq 7 0, zm 4 4 8, .g (.keep [4])]) (.ret))
def zau.rs : List Rs := [.sl 4]
theorem zau.ok : isFn Tryz.prog zau.id 9 zau.ann zau.ir zau.rs := ⟨Tryz.f117, _, Tryz.func117, rfl, rfl, by kernel_rfl, by kernel_rfl⟩
def zb4.ann : List (Nat × RA) := [(0, rk [1, 2]), (1, rk [3])]
def zb4.ir : C := .seq (.reg 1 [.o 0 (.box (some 2) 0 3 (.tmp 0)), zb 1 3 false, .g (.keep [1, 2])]) (.seq (.reg 0 [zf 0 4 2 0, zl 1 5 1 4, zf 2 6 1 0, zl 3 7 1 6, za 4 8 .eql 5 7, zm 5 3 8, .g (.keep [3])]) (.ret))
def zb4.rs : List Rs := [.sl 3]
theorem zb4.ok : isFn Tryz.prog zb4.id 9 zb4.ann zb4.ir zb4.rs := ⟨Tryz.f118, _, Tryz.func118, rfl, rfl, by kernel_rfl, by kernel_rfl⟩
def zal.ann : List (Nat × RA) := [(0, rk [0, 1]), (1, rk [0, 1, 7, 8]), (2, rk [0, 1, 7, 8, 9]), (3, rk [0, 1, 5, 7, 8]), (4, rk [0, 1, 5, 7, 8, 16]), (5, rk [4]), (6, rk [0, 1, 7, 8]), (7, rk [4])]
def zal.b0 : C := .seq (.reg 0 [za 0 9 .lss 8 7, .g (.keep [0, 1, 7, 8, 9])]) (.seq (.cond (.tmp 9) (.skip) (.exit 0)) (.seq (.block 1 (.seq (.reg 0 [zm 0 10 8, zm 1 5 10, .g (.keep [0, 1, 5, 7, 8])]) (.seq (.reg 0 [zm 0 11 1, zm 1 12 0, zm 2 13 5, zx 3 14 10 12 13, zL 4 15 10 14, .o 5 (.callv (some 16) (.tmp 11) [(.tmp 15)]), .g (.keep [0, 1, 5, 7, 8, 16])]) (.cond (.tmp 16) (.seq (.reg 0 [zm 0 17 5, zm 1 4 17, .g (.keep [4])]) (.ret)) (.skip))))) (.reg 0 [zd 0 18 .add 8 1, zm 1 8 18, .g (.keep [0, 1, 7, 8])])))
def zal.ir : C := .seq (.reg 0 [zk 0 4 0, .g (.keep [0, 1])]) (.seq (.seq (.reg 0 [zm 0 6 0, zn 1 7 6, zk 2 8 0, .g (.keep [0, 1, 7, 8])]) (.block 0 (.loop zal.b0))) (.seq (.reg 0 [zk 0 4 (-1), .g (.keep [4])]) (.ret)))
def zal.rs : List Rs := [.sl 4]
theorem zal.ok : isFn Tryz.prog zal.id 19 zal.ann zal.ir zal.rs := ⟨Tryz.f119, _, Tryz.func119, rfl, rfl, by kernel_rfl, by kernel_rfl⟩
def za1.ann : List (Nat × RA) := [(0, rk [0, 1, 4]), (1, rp [0, 1, 4, 12] [(6, [1000000])]), (2, rk [0, 1, 4]), (3, rp [0, 1, 4] [(1, [1000000])]), (4, rp [0, 1, 4] [(6, [1000000])])]
def za1.b0 : C := .seq (.seq (.reg 0 [zm 0 5 4, zm 1 6 1, zn 2 7 6, za 3 8 .lss 5 7, zm 4 9 8, ym 5 9 true 10 0, .gd 6 9 true (some 11) (.callm (some 11) (.func zbf.id) [(.tmp 10)]), zr 7 12 9 11 false, .g (.keep [0, 1, 4, 12])]) (.cond (.tmp 12) (.skip) (.exit 0))) (.seq (.block 1 (.seq (.reg 0 [zm 0 15 0, .o 1 (.callm (some 16) (.func zaQ.id) [(.tmp 15), (.const (.int .i64 1))]), .g (.keep [0, 1, 4])]) (.reg 0 [zm 0 17 0, zm 1 18 1, zm 2 19 4, zx 3 20 1 18 19, zl 4 21 1 20, zn 5 22 21, .o 6 (.callm (some 23) (.func zaQ.id) [(.tmp 17), (.tmp 22)]), .g (.keep [0, 1, 4])]))) (.reg 0 [zm 0 13 4, zd 1 14 .add 13 1, zm 2 4 14, .g (.keep [0, 1, 4])]))
def za1.ir : C := .seq (.reg 0 [zk 0 4 0, .g (.keep [0, 1, 4])]) (.block 0 (.loop za1.b0))
def za1.rs : List Rs := []
theorem za1.ok : isFn Tryz.prog za1.id 24 za1.ann za1.ir za1.rs := ⟨Tryz.f120, _, Tryz.func120, rfl, rfl, by kernel_rfl, by kernel_rfl⟩
def zbQ.ann : List (Nat × RA) := [(0, rk [0, 1]), (1, rk [4])]
def zbQ.ir : C := .seq (.reg 0 [zb 0 4 false, .g (.keep [0, 1])]) (.seq (.reg 0 [zm 0 5 0, zd 1 6 .geq 5 0, zm 2 7 6, ym 3 7 true 8 0, ym 4 7 true 9 1, ya 5 7 true 10 .lss 8 9, zr 6 11 7 10 false, zm 7 4 11, .g (.keep [4])]) (.ret))
def zbQ.rs : List Rs := [.sl 4]
theorem zbQ.ok : isFn Tryz.prog zbQ.id 12 zbQ.ann zbQ.ir zbQ.rs := ⟨Tryz.f121, _, Tryz.func121, rfl, rfl, by kernel_rfl, by kernel_rfl⟩
def zbR.ann : List (Nat × RA) := [(0, rk [0, 1]), (1, rk [4])]
def zbR.ir : C := .seq (.reg 0 [zb 0 4 false, .g (.keep [0, 1])]) (.seq (.reg 0 [zm 0 5 0, zm 1 6 1, .o 2 (.lt (some 7) (.un .neg (.tmp 6))), za 3 8 .geq 5 7, zm 4 9 8, ym 5 9 true 10 0, ym 6 9 true 11 1, ya 7 9 true 12 .leq 10 11, zr 8 13 9 12 false, zm 9 4 13, .g (.keep [4])]) (.ret))
def zbR.rs : List Rs := [.sl 4]
theorem zbR.ok : isFn Tryz.prog zbR.id 14 zbR.ann zbR.ir zbR.rs := ⟨Tryz.f122, _, Tryz.func122, rfl, rfl, by kernel_rfl, by kernel_rfl⟩
def zcy.ann : List (Nat × RA) := [(0, rk [0, 1]), (1, rk [3])]
def zcy.ir : C := .seq (.reg 0 [zb 0 3 false, .g (.keep [0, 1])]) (.seq (.reg 0 [zm 0 4 0, zn 1 5 4, zf 2 6 1 7, zl 3 7 1 6, zn 4 8 7, za 5 9 .neq 5 8, zm 6 3 9, .g (.keep [3])]) (.ret))
def zcy.rs : List Rs := [.sl 3]
theorem zcy.ok : isFn Tryz.prog zcy.id 10 zcy.ann zcy.ir zcy.rs := ⟨Tryz.f123, _, Tryz.func123, rfl, rfl, by kernel_rfl, by kernel_rfl⟩
def zaX.ann : List (Nat × RA) := [(0, rk [0, 1]), (1, rk [0, 1, 7, 8]), (2, rk [0, 1, 7, 8, 9]), (3, rk [0, 1, 5, 7, 8]), (4, rk [0, 1, 5, 7, 8, 16]), (5, rk [4]), (6, rk [0, 1, 7, 8]), (7, rk [4])]
def zaX.b0 : C := .seq (.reg 0 [za 0 9 .lss 8 7, .g (.keep [0, 1, 7, 8, 9])]) (.seq (.cond (.tmp 9) (.skip) (.exit 0)) (.seq (.block 1 (.seq (.reg 0 [zm 0 10 8, zm 1 5 10, .g (.keep [0, 1, 5, 7, 8])]) (.seq (.reg 0 [zm 0 11 1, zm 1 12 0, zm 2 13 5, zx 3 14 1 12 13, zl 4 15 1 14, .o 5 (.callv (some 16) (.tmp 11) [(.tmp 15)]), .g (.keep [0, 1, 5, 7, 8, 16])]) (.cond (.tmp 16) (.seq (.reg 0 [zm 0 17 5, zm 1 4 17, .g (.keep [4])]) (.ret)) (.skip))))) (.reg 0 [zd 0 18 .add 8 1, zm 1 8 18, .g (.keep [0, 1, 7, 8])])))
def zaX.ir : C := .seq (.reg 0 [zk 0 4 0, .g (.keep [0, 1])]) (.seq (.seq (.reg 0 [zm 0 6 0, zn 1 7 6, zk 2 8 0, .g (.keep [0, 1, 7, 8])]) (.block 0 (.loop zaX.b0))) (.seq (.reg 0 [zk 0 4 (-1), .g (.keep [4])]) (.ret)))
def zaX.rs : List Rs := [.sl 4]
theorem zaX.ok : isFn Tryz.prog zaX.id 19 zaX.ann zaX.ir zaX.rs := ⟨Tryz.f124, _, Tryz.func124, rfl, rfl, by kernel_rfl, by kernel_rfl⟩
def zcn.ann : List (Nat × RA) := [(0, rk [0]), (1, rk [2])]
def zcn.ir : C := .seq (.reg 0 [zb 0 2 false, .g (.keep [0])]) (.seq (.reg 0 [zm 0 3 0, .o 1 (.call (some 4) zb7.id [(.tmp 3), (.const (.int .i64 1000000000))]), zq 2 5 4, zm 3 2 5, .g (.keep [2])]) (.ret))
def zcn.rs : List Rs := [.sl 2]
theorem zcn.ok : isFn Tryz.prog zcn.id 6 zcn.ann zcn.ir zcn.rs := ⟨Tryz.f125, _, Tryz.func125, rfl, rfl, by kernel_rfl, by kernel_rfl⟩
def zaP.ann : List (Nat × RA) := [(0, rk [0, 1]), (1, rk [0, 1, 7, 8]), (2, rk [0, 1, 7, 8, 9]), (3, rk [0, 1, 5, 7, 8]), (4, rk [0, 1, 5, 7, 8, 16]), (5, rk [4]), (6, rk [0, 1, 7, 8]), (7, rk [4])]
def zaP.b0 : C := .seq (.reg 0 [za 0 9 .lss 8 7, .g (.keep [0, 1, 7, 8, 9])]) (.seq (.cond (.tmp 9) (.skip) (.exit 0)) (.seq (.block 1 (.seq (.reg 0 [zm 0 10 8, zm 1 5 10, .g (.keep [0, 1, 5, 7, 8])]) (.seq (.reg 0 [zm 0 11 1, zm 1 12 0, zm 2 13 5, zx 3 14 1 12 13, zl 4 15 1 14, .o 5 (.callv (some 16) (.tmp 11) [(.tmp 15)]), .g (.keep [0, 1, 5, 7, 8, 16])]) (.cond (.tmp 16) (.seq (.reg 0 [zm 0 17 5, zm 1 4 17, .g (.keep [4])]) (.ret)) (.skip))))) (.reg 0 [zd 0 18 .add 8 1, zm 1 8 18, .g (.keep [0, 1, 7, 8])])))
def zaP.ir : C := .seq (.reg 0 [zk 0 4 0, .g (.keep [0, 1])]) (.seq (.seq (.reg 0 [zm 0 6 0, zn 1 7 6, zk 2 8 0, .g (.keep [0, 1, 7, 8])]) (.block 0 (.loop zaP.b0))) (.seq (.reg 0 [zk 0 4 (-1), .g (.keep [4])]) (.ret)))
def zaP.rs : List Rs := [.sl 4]
theorem zaP.ok : isFn Tryz.prog zaP.id 19 zaP.ann zaP.ir zaP.rs := ⟨Tryz.f126, _, Tryz.func126, rfl, rfl, by kernel_rfl, by kernel_rfl⟩
def zcP.ann : List (Nat × RA) := [(0, rk [0, 1, 2]), (1, rk [1, 2, 7]), (2, rk [1, 2, 7, 8]), (3, rk [6]), (4, rk [1, 2, 13]), (5, rk [6]), (6, rk [6])]
def zcP.ir : C := .seq (.reg 0 [zb 0 6 false, .g (.keep [0, 1, 2])]) (.seq (.seq (.reg 0 [zm 0 7 0, .g (.keep [1, 2, 7])]) (.block 0 (.seq (.reg 0 [zd 0 9 .eql 7 1, zm 1 8 9, .g (.keep [1, 2, 7, 8])]) (.cond (.tmp 8) (.seq (.reg 0 [zm 0 10 1, zm 1 11 2, za 2 12 .leq 10 11, zm 3 6 12, .g (.keep [6])]) (.ret)) (.seq (.reg 0 [zd 0 14 .eql 7 3, zm 1 13 14, .g (.keep [1, 2, 13])]) (.cond (.tmp 13) (.seq (.reg 0 [zm 0 15 1, zm 1 16 2, za 2 17 .geq 15 16, zm 3 6 17, .g (.keep [6])]) (.ret)) (.skip))))))) (.seq (.reg 0 [zm 0 18 1, zm 1 19 2, za 2 20 .eql 18 19, zm 3 6 20, .g (.keep [6])]) (.ret)))
def zcP.rs : List Rs := [.sl 6]
theorem zcP.ok : isFn Tryz.prog zcP.id 21 zcP.ann zcP.ir zcP.rs := ⟨Tryz.f127, _, Tryz.func127, rfl, rfl, by kernel_rfl, by kernel_rfl⟩
def zao.ann : List (Nat × RA) := [(0, rk [0]), (1, rk [0, 8]), (2, rk [2]), (3, rk [0, 3]), (4, rk [0, 3, 13]), (5, rk [0, 3]), (6, ro [0, 3, 25] [0, 1, 2, 3, 4, 5, 6, 7, 8, 9]), (7, rk [0, 3, 4]), (8, rk [0, 3, 4, 5]), (9, rk [0, 3, 4, 5, 32]), (10, rk [0, 3, 4, 5]), (11, ro [0, 3, 4, 5, 44] [0, 1, 2, 3, 4, 5, 6, 7, 8, 9]), (12, rk [0, 3, 4, 5]), (13, rk [0, 3, 4, 5]), (14, rk [0, 3]), (15, rk [2]), (16, rk [2])]
def zao.b1 : C := .seq (.seq (.reg 0 [zm 0 29 5, zm 1 30 4, zn 2 31 30, za 3 32 .lss 29 31, .g (.keep [0, 3, 4, 5, 32])]) (.cond (.tmp 32) (.skip) (.exit 2))) (.seq (.block 3 (.seq (.reg 0 [zm 0 35 4, zm 1 36 5, zx 2 37 1 35 36, zl 3 38 1 37, zm 4 39 4, zm 5 40 5, zd 6 41 .sub 40 1, zx 7 42 1 39 41, zl 8 43 1 42, za 9 44 .neq 38 43, .g (.keep [0, 3, 4, 5, 44])]) (.cond (.tmp 44) (.seq (.reg 0 [zm 0 45 0, zm 1 46 3, zm 2 47 4, zm 3 48 5, zx 4 49 1 47 48, zl 5 50 1 49, zx 6 51 1 45 46, .o 7 (.store [] 1 (.tmp 51) (.tmp 50)), .g (.keep [0, 3, 4, 5])]) (.reg 0 [zm 0 52 3, zd 1 53 .add 52 1, zm 2 3 53, .g (.keep [0, 3, 4, 5])])) (.skip)))) (.reg 0 [zm 0 33 5, zd 1 34 .add 33 1, zm 2 5 34, .g (.keep [0, 3, 4, 5])]))
def zao.b0 : C := .seq (.seq (.reg 0 [zm 0 10 3, zm 1 11 0, zn 2 12 11, za 3 13 .lss 10 12, .g (.keep [0, 3, 13])]) (.cond (.tmp 13) (.skip) (.exit 0))) (.seq (.block 1 (.seq (.reg 0 [zm 0 16 0, zm 1 17 3, zx 2 18 1 16 17, zl 3 19 1 18, zm 4 20 0, zm 5 21 3, zd 6 22 .sub 21 1, zx 7 23 1 20 22, zl 8 24 1 23, za 9 25 .eql 19 24, .g (.keep [0, 3, 25])]) (.cond (.tmp 25) (.seq (.reg 0 [zm 0 26 0, zm 1 27 3, .o 2 (.lt (some 28) (.slSl 1 (.tmp 26) (some (.tmp 27)) none)), zm 3 4 28, .g (.keep [0, 3, 4])]) (.seq (.seq (.reg 0 [zk 0 5 1, .g (.keep [0, 3, 4, 5])]) (.block 2 (.loop zao.b1))) (.seq (.reg 0 [zm 0 54 0, zm 1 55 3, .o 2 (.lt (some 56) (.slSl 1 (.tmp 54) (some (.tmp 55)) none)), .o 3 (.clr none 1 [.a (.int .i64 0)] (.tmp 56)), .g (.keep [0, 3])]) (.seq (.reg 0 [zm 0 57 0, zm 1 58 3, .o 2 (.lt (some 59) (.slSl 1 (.tmp 57) none (some (.tmp 58)))), zm 3 2 59, .g (.keep [2])]) (.ret))))) (.skip)))) (.reg 0 [zm 0 14 3, zd 1 15 .add 14 1, zm 2 3 15, .g (.keep [0, 3])]))
def zao.ir : C := .seq (.reg 0 [.o 0 (.lt (some 2) (.mov (.const (.slice none 0 0)))), .g (.keep [0])]) (.seq (.seq (.reg 0 [zm 0 6 0, zn 1 7 6, zd 2 8 .lss 7 2, .g (.keep [0, 8])]) (.cond (.tmp 8) (.seq (.reg 0 [zm 0 9 0, zm 1 2 9, .g (.keep [2])]) (.ret)) (.skip))) (.seq (.seq (.reg 0 [zk 0 3 1, .g (.keep [0, 3])]) (.block 0 (.loop zao.b0))) (.seq (.reg 0 [zm 0 60 0, zm 1 2 60, .g (.keep [2])]) (.ret))))
def zao.rs : List Rs := [.sl 2]
theorem zao.ok : isFn Tryz.prog zao.id 61 zao.ann zao.ir zao.rs := ⟨Tryz.f129, _, Tryz.func129, rfl, rfl, by kernel_rfl, by kernel_rfl⟩
def zco.ann : List (Nat × RA) := [(0, rk [0, 1]), (1, rk [3])]
def zco.ir : C := .seq (.reg 0 [zb 0 3 false, .g (.keep [0, 1])]) (.seq (.reg 0 [zm 0 4 0, zl 1 5 1 1, .o 2 (.call (some 6) za3.id [(.tmp 4), (.tmp 5)]), zm 3 3 6, .g (.keep [3])]) (.ret))
def zco.rs : List Rs := [.sl 3]
theorem zco.ok : isFn Tryz.prog zco.id 7 zco.ann zco.ir zco.rs := ⟨Tryz.f130, _, Tryz.func130, rfl, rfl, by kernel_rfl, by kernel_rfl⟩
def za3.ann : List (Nat × RA) := [(0, rk [0, 1]), (1, rk [0, 1, 10]), (2, rk [4]), (3, rk [0, 1, 12, 13]), (4, rk [0, 1, 12, 13, 14]), (5, rk [0, 1, 5, 12, 13]), (6, ro [0, 1, 12, 13, 24] [0, 1, 2, 3, 4, 5, 6, 7, 8]), (7, rk [4]), (8, rk [0, 1, 12, 13]), (9, rk [4])]
def za3.b0 : C := .seq (.reg 0 [za 0 14 .lss 13 12, .g (.keep [0, 1, 12, 13, 14])]) (.seq (.cond (.tmp 14) (.skip) (.exit 0)) (.seq (.block 1 (.seq (.reg 0 [zm 0 15 13, zm 1 5 15, .g (.keep [0, 1, 5, 12, 13])]) (.seq (.reg 0 [zm 0 16 0, zm 1 17 5, zx 2 18 1 16 17, zl 3 19 1 18, zm 4 20 1, zm 5 21 5, zx 6 22 1 20 21, zl 7 23 1 22, za 8 24 .neq 19 23, .g (.keep [0, 1, 12, 13, 24])]) (.cond (.tmp 24) (.seq (.reg 0 [zb 0 4 false, .g (.keep [4])]) (.ret)) (.skip))))) (.reg 0 [zd 0 25 .add 13 1, zm 1 13 25, .g (.keep [0, 1, 12, 13])])))
def za3.ir : C := .seq (.reg 0 [zb 0 4 false, .g (.keep [0, 1])]) (.seq (.seq (.reg 0 [zm 0 6 0, zn 1 7 6, zm 2 8 1, zn 3 9 8, za 4 10 .neq 7 9, .g (.keep [0, 1, 10])]) (.cond (.tmp 10) (.seq (.reg 0 [zb 0 4 false, .g (.keep [4])]) (.ret)) (.skip))) (.seq (.seq (.reg 0 [zm 0 11 0, zn 1 12 11, zk 2 13 0, .g (.keep [0, 1, 12, 13])]) (.block 0 (.loop za3.b0))) (.seq (.reg 0 [zb 0 4 true, .g (.keep [4])]) (.ret))))
def za3.rs : List Rs := [.sl 4]
theorem za3.ok : isFn Tryz.prog za3.id 26 za3.ann za3.ir za3.rs := ⟨Tryz.f131, _, Tryz.func131, rfl, rfl, by kernel_rfl, by kernel_rfl⟩
def zbG.ann : List (Nat × RA) := [(0, rk [0, 3, 4]), (1, rp [0, 3, 4] [(3, [1000000])]), (2, rp [0, 3, 4] [(3, [1000000])]), (3, rp [0, 3, 4] [(3, [1000000])]), (4, rp [3, 4] [(3, [1000000])]), (5, rk [4])]
def zbG.ir : C := .seq (.reg 2 [.o 0 (.box (some 3) 0 10 (.tmp 1)), .o 1 (.alloc (some 4) 1 10 [.a (.int .i64 0), .a (.int .i64 0), .a (.slice none 0 0), .a (.int .i64 0), .a (.int .i64 0), .a (.int .i64 0), .a (.int .i64 0), .a (.slice none 0 0), .a (.slice none 0 0), .a (.slice none 0 0)]), .g (.keep [0, 3, 4])]) (.seq (.reg 0 [zm 0 5 0, zf 1 6 3 2, zl 2 7 1 6, .o 3 (.callm (some 8) (.func zaN.id) [(.tmp 5), (.tmp 7), (.const (.int .i64 4))]), zf 4 9 3 2, .o 5 (.store [] 1 (.tmp 9) (.tmp 8)), .g (.keep [0, 3, 4])]) (.seq (.reg 0 [zm 0 10 0, zf 1 11 3 7, zl 2 12 1 11, .o 3 (.callm (some 13) (.func zaB.id) [(.tmp 10), (.tmp 12), (.const (.int .i64 4))]), zf 4 14 3 7, .o 5 (.store [] 1 (.tmp 14) (.tmp 13)), .g (.keep [0, 3, 4])]) (.seq (.reg 0 [zm 0 15 0, zf 1 16 3 8, zl 2 17 1 16, .o 3 (.callm (some 18) (.func zaB.id) [(.tmp 15), (.tmp 17), (.const (.int .i64 4))]), zf 4 19 3 8, .o 5 (.store [] 1 (.tmp 19) (.tmp 18)), .g (.keep [0, 3, 4])]) (.seq (.reg 0 [zm 0 20 0, zf 1 21 3 9, zl 2 22 1 21, .o 3 (.callm (some 23) (.func zaC.id) [(.tmp 20), (.tmp 22), (.const (.int .i64 4))]), zf 4 24 3 9, .o 5 (.store [] 1 (.tmp 24) (.tmp 23)), .g (.keep [3, 4])]) (.seq (.reg 0 [zL 0 25 10 3, .o 1 (.store [] 10 (.tmp 4) (.tmp 25)), .g (.keep [4])]) (.ret))))))
def zbG.rs : List Rs := [.ce 4 true 10]
theorem zbG.ok : isFn Tryz.prog zbG.id 26 zbG.ann zbG.ir zbG.rs := ⟨Tryz.f132, _, Tryz.func132, rfl, rfl, by kernel_rfl, by kernel_rfl⟩
def zbM.ann : List (Nat × RA) := [(0, rk [0]), (1, rk [2])]
def zbM.ir : C := .seq (.reg 0 [zb 0 2 false, .g (.keep [0])]) (.seq (.reg 0 [zm 0 3 0, .o 1 (.lt (some 4) (.bin .geq (.tmp 3) (.const (.int .u8 97)))), zm 2 5 4, ym 3 5 true 6 0, .gd 4 5 true (some 7) (.lt (some 7) (.bin .leq (.tmp 6) (.const (.int .u8 122)))), zr 5 8 5 7 false, zm 6 9 8, ym 7 9 false 10 0, .gd 8 9 false (some 11) (.lt (some 11) (.bin .geq (.tmp 10) (.const (.int .u8 65)))), ym 9 9 false 12 11, ym 10 12 true 13 0, .gd 11 12 true (some 14) (.lt (some 14) (.bin .leq (.tmp 13) (.const (.int .u8 90)))), yr 12 9 false 15 12 14 false, zp 13 16 9 true 15, zm 14 17 16, ym 15 17 false 18 0, .gd 16 17 false (some 19) (.lt (some 19) (.bin .eql (.tmp 18) (.const (.int .u8 95)))), zp 17 20 17 true 19, zm 18 2 20, .g (.keep [2])]) (.ret))
def zbM.rs : List Rs := [.sl 2]
theorem zbM.ok : isFn Tryz.prog zbM.id 21 zbM.ann zbM.ir zbM.rs := ⟨Tryz.f133, _, Tryz.func133, rfl, rfl, by kernel_rfl, by kernel_rfl⟩
def zam.ann : List (Nat × RA) := [(0, rk [0, 1]), (1, rk [0, 1, 7, 8]), (2, rk [0, 1, 7, 8, 9]), (3, rk [0, 1, 5, 7, 8]), (4, rk [0, 1, 5, 7, 8, 16]), (5, rk [4]), (6, rk [0, 1, 7, 8]), (7, rk [4])]
def zam.b0 : C := .seq (.reg 0 [za 0 9 .lss 8 7, .g (.keep [0, 1, 7, 8, 9])]) (.seq (.cond (.tmp 9) (.skip) (.exit 0)) (.seq (.block 1 (.seq (.reg 0 [zm 0 10 8, zm 1 5 10, .g (.keep [0, 1, 5, 7, 8])]) (.seq (.reg 0 [zm 0 11 1, zm 1 12 0, zm 2 13 5, zx 3 14 3 12 13, zL 4 15 3 14, .o 5 (.callv (some 16) (.tmp 11) [(.tmp 15)]), .g (.keep [0, 1, 5, 7, 8, 16])]) (.cond (.tmp 16) (.seq (.reg 0 [zm 0 17 5, zm 1 4 17, .g (.keep [4])]) (.ret)) (.skip))))) (.reg 0 [zd 0 18 .add 8 1, zm 1 8 18, .g (.keep [0, 1, 7, 8])])))
def zam.ir : C := .seq (.reg 0 [zk 0 4 0, .g (.keep [0, 1])]) (.seq (.seq (.reg 0 [zm 0 6 0, zn 1 7 6, zk 2 8 0, .g (.keep [0, 1, 7, 8])]) (.block 0 (.loop zam.b0))) (.seq (.reg 0 [zk 0 4 (-1), .g (.keep [4])]) (.ret)))
def zam.rs : List Rs := [.sl 4]
theorem zam.ok : isFn Tryz.prog zam.id 19 zam.ann zam.ir zam.rs := ⟨Tryz.f134, _, Tryz.func134, rfl, rfl, by kernel_rfl, by kernel_rfl⟩
end Go.Abs.G

namespace Go.Abs
def βz : Nat → Hd := fun _ => ⟨0, 0, 0, 0, 0, false, 0, noSub⟩
def cz (w : World) : Cx := cx w.heap [] βz (fun _ => False)
theorem zn0 (w : World) (b : Nat) : ¬ (cz w).own b := by
  rintro (⟨i, e⟩ | e)
  · simp [ownsB] at e
  · exact e
theorem zmV {w : World} {v : Value} {x : V} (h : RV (cz w) v x) : RV ((cz w).only []) v x :=
  h.mono ⟨Nat.le_refl _, fun _ _ hn => ⟨rfl, hn⟩, fun i hl => by obtain ⟨o, ho, _⟩ := hl; simp at ho, fun _ _ _ e => .inl e⟩
theorem znZ (w : World) : HOK w.heap [] βz (fun _ => False) :=
  ⟨fun id o h => by simp at h, fun id id' b h => by simp [ownsB] at h, fun b h => h.elim⟩
def Rd (P : Program) (t : TypeId) (n : Nat) {α : Type} (f : α → List V) (ok : α → Prop) : Prop :=
  P.cellsOf t = n ∧ ∀ (H : Type) (enc : TypeId × Value → H) (w : World) (fuel : Nat) (cs : List Value) (d : DataW H) (ps : List MemPlace), DataW.trod enc P w 0 (fun _ => true) true fuel t cs = some (d, ps) → (∀ q ∈ DataW.weights P t d, q ≤ reachBytes) →
    ∃ x, ok x ∧ (f x).length = n ∧ cs.length = n ∧ ∀ (i : Nat) (v : Value) (y : V), cs[i]? = some v → (f x)[i]? = some y → v.oneCell' = true ∧ RV (cz w) v y
section
variable {P : Program} {t : TypeId}
theorem zfK {v0 : Value} {y0 : V} {w : World} (h1 : v0.oneCell' = true) (h2 : RV (cz w) v0 y0) : ∀ (i : Nat) (v : Value) (y : V), [v0][i]? = some v → [y0][i]? = some y → v.oneCell' = true ∧ RV (cz w) v y := by
  intro i v y a b
  cases i with
  | zero => simp at a b; subst a; subst b; exact ⟨h1, h2⟩
  | succ i => simp at a
theorem Rd.int {k : IntKind} (hu : P.underlying t = some (.int k)) (hc : P.cellsOf t = 1) : Rd P t 1 (fun n : Int => [.a (.int k n)]) (fun n => (Lit.int k n).wf = true) := by
  refine ⟨hc, fun H enc w fuel cs d ps h hwt => ?_⟩
  cases fuel with
  | zero => simp [DataW.trod] at h
  | succ fuel =>
    unfold DataW.trod at h
    rw [hu] at h
    rcases cs with _ | ⟨v, _ | ⟨v2, cs⟩⟩
    · cases h
    · cases v <;> first | cases h | skip
      next k' n =>
      simp only at h
      split at h
      · next hk =>
        obtain ⟨rfl, hk⟩ := hk
        exact ⟨n, hk, rfl, rfl, zfK rfl .a⟩
      · cases h
    · simp at h
theorem Rd.bool (hu : P.underlying t = some .bool) (hc : P.cellsOf t = 1) : Rd P t 1 (fun b : Bool => [.a (.bool b)]) (fun _ => True) := by
  refine ⟨hc, fun H enc w fuel cs d ps h hwt => ?_⟩
  cases fuel with
  | zero => simp [DataW.trod] at h
  | succ fuel =>
    unfold DataW.trod at h
    rw [hu] at h
    rcases cs with _ | ⟨v, _ | ⟨v2, cs⟩⟩
    · cases h
    · cases v <;> first | cases h | skip
      next b => exact ⟨b, trivial, rfl, rfl, zfK rfl .a⟩
    · simp at h
theorem Rd.str (hu : P.underlying t = some .string) (hc : P.cellsOf t = 1) : Rd P t 1 (fun s : ByteArray => [.a (.string s)]) (fun s => s.size ≤ maxLen ∧ s.size ≤ reachBytes) := by
  refine ⟨hc, fun H enc w fuel cs d ps h hwt => ?_⟩
  cases fuel with
  | zero => simp [DataW.trod] at h
  | succ fuel =>
    unfold DataW.trod at h
    rw [hu] at h
    rcases cs with _ | ⟨v, _ | ⟨v2, cs⟩⟩
    · cases h
    · cases v <;> first | cases h | skip
      next s =>
      simp only at h
      split at h
      · next hs =>
        injection h with h
        injection h with h1 h2
        subst h1
        exact ⟨s, ⟨hs, by have := hwt s.data.toList.length (by simp [DataW.weights]); simpa using this⟩, rfl, rfl, zfK rfl .a⟩
      · cases h
    · simp at h
theorem cells?_get {w : World} {a : Addr} {n : Nat} {cs : List Value} (h : w.cells? 0 a n = some cs) : cs.length = n ∧ ∀ (i : Nat) (v : Value), cs[i]? = some v → look w.heap a.block (a.off + i) = some v ∧ (i = 0 → a.spot = none) := by
  unfold World.cells? at h
  rw [if_pos (Nat.zero_le _)] at h
  obtain ⟨h1, h2⟩ := zeI h
  have hl : cs.length = n := by rw [h1]; simp
  refine ⟨hl, fun i v hv => ?_⟩
  have hi : i < n := by rw [← hl]; exact zbp hv
  obtain ⟨y, hy, hc⟩ := h2 i i (List.getElem?_range hi)
  rw [hv] at hy; injection hy with hy; subst hy
  have hadd : (a.add i).block = a.block ∧ ((a.add i).spot = none → (i = 0 → a.spot = none) ∧ (a.add i).off = a.off + i) := by
    unfold Addr.add
    split
    · next e => subst e; exact ⟨rfl, fun h => ⟨fun _ => h, by simp⟩⟩
    · next e => exact ⟨rfl, fun h => ⟨fun e' => (e e').elim, rfl⟩⟩
  unfold World.cell? at hc
  rw [hadd.1] at hc
  split at hc
  · next c _ _ hb =>
    split at hc
    · cases hc
    · next hs =>
      have hs : (a.add i).spot = none := by simpa using hs
      obtain ⟨g1, g2⟩ := hadd.2 hs
      rw [g2] at hc
      exact ⟨by unfold look; rw [hb]; exact hc, g1⟩
  · cases hc
theorem ziP {α β : Type} {R : Nat → α → β → Prop} : ∀ (l : List α) (k : Nat), (∀ (i : Nat) (x : α), l[i]? = some x → ∃ y, R (k + i) x y) → ∃ r : List β, r.length = l.length ∧ ∀ (i : Nat) (x : α) (y : β), l[i]? = some x → r[i]? = some y → R (k + i) x y := by
  intro l
  induction l with
  | nil => intro k _; exact ⟨[], rfl, fun i x y h => by simp at h⟩
  | cons a l ih =>
    intro k h
    obtain ⟨y, hy⟩ := h 0 a rfl
    obtain ⟨r, h1, h2⟩ := ih (k + 1) fun i x hx => by
      obtain ⟨y, hy⟩ := h (i + 1) x hx
      exact ⟨y, by rw [show k + 1 + i = k + (i + 1) from by omega]; exact hy⟩
    refine ⟨y :: r, by simp [h1], fun i x z hx hz => ?_⟩
    cases i with
    | zero => simp at hx hz; subst hx; subst hz; exact hy
    | succ i =>
      have := h2 i x z (by simpa using hx) (by simpa using hz)
      rw [show k + (i + 1) = k + 1 + i from by omega]; exact this
theorem zgf {H : Type} {P : Program} {e : TypeId} {l : List (DataW H)} {d : DataW H} {q : Nat} (hd : d ∈ l) (hq : q ∈ DataW.weights P e d) : q ∈ DataW.weightsAll P e l := by
  induction l with
  | nil => cases hd
  | cons a l ih =>
    simp only [DataW.weightsAll, List.mem_append]
    rcases List.mem_cons.1 hd with rfl | hd
    · exact .inl hq
    · exact .inr (ih hd)
theorem Rd.slice {e : TypeId} {n : Nat} {α : Type} {f : α → List V} {ok : α → Prop} (hu : P.underlying t = some (.slice e)) (hc : P.cellsOf t = 1) (hn : 0 < n) (he : Rd P e n f ok) :
    Rd P t 1 (fun l : List α => [.view n (l.map f)]) (fun l => l.length ≤ maxLen ∧ l.length * P.bytesOf e ≤ reachBytes ∧ ∀ x ∈ l, ok x) := by
  refine ⟨hc, fun H enc w fuel cs d ps h hwt => ?_⟩
  obtain ⟨hen, hel⟩ := he
  cases fuel with
  | zero => simp [DataW.trod] at h
  | succ fuel =>
    unfold DataW.trod at h
    rw [hu] at h
    rcases cs with _ | ⟨v, _ | ⟨v2, cs⟩⟩
    · cases h
    · cases v <;> first | cases h | skip
      next base len cap =>
      cases base with
      | none =>
        cases len <;> cases cap <;> first | cases h | skip
        exact ⟨[], ⟨Nat.zero_le _, by simp, by simp⟩, rfl, rfl, zfK rfl .nilv⟩
      | some a =>
        simp only at h
        split at h
        · next hg =>
          obtain ⟨_, hlc, hcm⟩ := hg
          simp only [Option.bind_eq_some_iff, Option.map_eq_some_iff] at h
          obtain ⟨elems, h1, rest, _, hd⟩ := h
          injection hd with hd1 hd2
          subst hd1
          simp only [DataW.weights, hu, List.mem_cons, List.mem_append] at hwt
          obtain ⟨g1, g2⟩ := zeI h1
          have hlen : elems.length = len := by rw [g1]; simp
          have hall : ∀ (i : Nat) (x : DataW H × List MemPlace), elems[i]? = some x → ∃ y : α, ok y ∧ (f y).length = n ∧ ∀ (j : Nat) (z : V), (f y)[j]? = some z → ∃ v, look w.heap a.block (a.off + (0 + i) * n + j) = some v ∧ (0 + i = 0 → j = 0 → a.spot = none) ∧ v.oneCell' = true ∧ RV (cz w) v z := by
            intro i x hx
            have hi : i < len := by rw [← hlen]; exact zbp hx
            obtain ⟨y, hy, hc⟩ := g2 i i (List.getElem?_range hi)
            rw [hx] at hy; injection hy with hy; subst hy
            rw [Option.bind_eq_some_iff] at hc
            obtain ⟨ci, hci, htr⟩ := hc
            rw [hen] at hci
            obtain ⟨c1, c2⟩ := cells?_get hci
            obtain ⟨y, k1, k2, k3, k4⟩ := hel H enc w fuel ci _ _ htr fun q hq => hwt q (.inr (.inl (zgf (List.mem_map_of_mem (List.mem_of_getElem? hx)) hq)))
            refine ⟨y, k1, k2, fun j z hz => ?_⟩
            have hj : j < ci.length := by rw [k3, ← k2]; exact zbp hz
            have hv := List.getElem?_eq_getElem hj
            obtain ⟨m1, m2⟩ := k4 j _ z hv hz
            obtain ⟨q1, q2⟩ := c2 j _ hv
            have hadd : (a.add (i * n)).block = a.block ∧ (a.add (i * n)).off = a.off + i * n := by
              unfold Addr.add
              split
              · next e => rw [e]; exact ⟨rfl, by simp⟩
              · exact ⟨rfl, rfl⟩
            rw [hadd.1, hadd.2] at q1
            refine ⟨_, by rw [Nat.zero_add]; exact q1, fun e0 e1 => ?_, m1, m2⟩
            have := q2 e1
            rw [show i * n = 0 from by rw [show i = 0 from by omega, Nat.zero_mul]] at this
            unfold Addr.add at this
            simpa using this
          obtain ⟨xs, x1, x2⟩ := ziP (R := fun i x y => ok y ∧ (f y).length = n ∧ ∀ (j : Nat) (z : V), (f y)[j]? = some z → ∃ v, look w.heap a.block (a.off + i * n + j) = some v ∧ (i = 0 → j = 0 → a.spot = none) ∧ v.oneCell' = true ∧ RV (cz w) v z) elems 0 hall
          have hx : ∀ (i : Nat) (y : α), xs[i]? = some y → ok y ∧ (f y).length = n ∧ ∀ (j : Nat) (z : V), (f y)[j]? = some z → ∃ v, look w.heap a.block (a.off + i * n + j) = some v ∧ (i = 0 → j = 0 → a.spot = none) ∧ v.oneCell' = true ∧ RV (cz w) v z := by
            intro i y hy
            have hi : i < elems.length := by rw [← x1]; exact zbp hy
            have := x2 i _ y (List.getElem?_eq_getElem hi) hy
            rw [Nat.zero_add] at this; exact this
          refine ⟨xs, ⟨by omega, ?_, fun y hy => ?_⟩, rfl, rfl, zfK rfl ?_⟩
          · have h1 := hwt _ (.inl rfl)
            refine Nat.le_trans (Nat.mul_le_mul_right _ ?_) h1
            simp [x1]
          · obtain ⟨i, hi⟩ := List.getElem?_of_mem hy
            exact (hx i y hi).1
          · have hrow : ∀ (i : Nat) (row : List V), (xs.map f)[i]? = some row → row.length = n ∧ ∀ (j : Nat) (z : V), row[j]? = some z → ∃ v, look w.heap a.block (a.off + i * n + j) = some v ∧ (i = 0 → j = 0 → a.spot = none) ∧ v.oneCell' = true ∧ RV (cz w) v z := by
              intro i row hi
              rw [List.getElem?_map, Option.map_eq_some_iff] at hi
              obtain ⟨y, hy, rfl⟩ := hi
              exact (hx i y hy).2
            have hl2 : len = (xs.map f).length := by simp [x1, hlen]
            rw [hl2]
            refine .view (fun i j => (look w.heap a.block (a.off + i * n + j)).getD undef) (fun hne => ?_) (by rw [← hl2]; exact hlc) (fun i row hi => (hrow i row hi).1) (fun i row hi j z hz => ?_) fun i row hi j z hz => ?_
            · have h0 : ∃ row, (xs.map f)[0]? = some row := by
                cases hq : xs.map f with
                | nil => exact (hne hq).elim
                | cons r l => exact ⟨r, rfl⟩
              obtain ⟨row, h0⟩ := h0
              obtain ⟨r1, r2⟩ := hrow 0 row h0
              obtain ⟨v, l1, l2, _⟩ := r2 0 _ (List.getElem?_eq_getElem (by omega))
              refine ⟨zn0 w _, ?_, l2 rfl rfl⟩
              unfold look at l1
              split at l1
              · next hb => exact hp_lt hb
              · cases l1
            · obtain ⟨v, l1, _, l3, _⟩ := (hrow i row hi).2 j z hz
              refine ⟨by show look w.heap _ _ = _; rw [l1]; rfl, by rw [l1]; exact l3⟩
            · obtain ⟨v, l1, _, _, l4⟩ := (hrow i row hi).2 j z hz
              rw [l1]; exact zmV l4
        · cases h
    · simp at h
end
end Go.Abs

namespace Go.Abs
def RdF (P : Program) (fs : List Field) (k : Nat) (n : Nat) {α : Type} (f : α → List V) (ok : α → Prop) : Prop :=
  ∀ (H : Type) (enc : TypeId × Value → H) (w : World) (fuel : Nat) (cs : List Value) (xs : List (DataW H × List MemPlace)), fs.mapM (fun fd => DataW.trod enc P w 0 (fun _ => true) true fuel fd.type ((cs.drop fd.offset).take (P.cellsOf fd.type))) = some xs → (∀ q ∈ DataW.weightsEach P (fs.map (·.type)) (xs.map (·.1)), q ≤ reachBytes) →
    ∃ x, ok x ∧ (f x).length = n ∧ ∀ (i : Nat) (v : Value) (y : V), cs[k + i]? = some v → (f x)[i]? = some y → v.oneCell' = true ∧ RV (cz w) v y
theorem RdF.nil {P : Program} {k : Nat} : RdF P [] k 0 (fun _ : Unit => []) (fun _ => True) :=
  fun H enc w fuel cs xs h _ => ⟨(), trivial, rfl, fun i v y _ h => by simp at h⟩
theorem RdF.cons {P : Program} {fd : Field} {fs : List Field} {k n m : Nat} {α β : Type} {f : α → List V} {ok : α → Prop} {g : β → List V} {ok' : β → Prop} (ho : fd.offset = k) (h1 : Rd P fd.type n f ok) (h2 : RdF P fs (k + n) m g ok') :
    RdF P (fd :: fs) k (n + m) (fun p : α × β => f p.1 ++ g p.2) (fun p => ok p.1 ∧ ok' p.2) := by
  intro H enc w fuel cs xs h hwt
  rw [List.mapM_cons] at h
  simp only [bind, Option.bind_eq_some_iff, pure, Option.some.injEq] at h
  obtain ⟨d, hd, xs', hxs, rfl⟩ := h
  simp only [List.map_cons, DataW.weightsEach, List.mem_append] at hwt
  obtain ⟨x, a1, a2, a3, a4⟩ := h1.2 H enc w fuel _ _ _ hd fun q hq => hwt q (.inl hq)
  obtain ⟨y, b1, b2, b3⟩ := h2 H enc w fuel cs xs' hxs fun q hq => hwt q (.inr hq)
  refine ⟨(x, y), ⟨a1, b1⟩, by simp [a2, b2], fun i v z hv hz => ?_⟩
  rw [List.getElem?_append] at hz
  split at hz
  · next hi =>
    refine a4 i v z ?_ hz
    rw [List.getElem?_take, if_pos (by rw [h1.1, ← a2]; exact hi), List.getElem?_drop, ho]
    exact hv
  · next hi =>
    refine b3 (i - (f x).length) v z ?_ hz
    have hi : ¬ i < (f x).length := hi
    rw [← hv]; congr 1; omega
theorem Rd.struct {P : Program} {t : TypeId} {fs : Array Field} {n : Nat} {α : Type} {f : α → List V} {ok : α → Prop} (hu : P.underlying t = some (.struct fs)) (hc : P.cellsOf t = n) (hf : RdF P fs.toList 0 n f ok) : Rd P t n f ok := by
  refine ⟨hc, fun H enc w fuel cs d ps h hwt => ?_⟩
  cases fuel with
  | zero => simp [DataW.trod] at h
  | succ fuel =>
    have key : cs.length = P.cellsOf t ∧ ∃ xs, d = .agg (xs.map (·.1)) ∧ fs.toList.mapM (fun fd => DataW.trod enc P w 0 (fun _ => true) true fuel fd.type ((cs.drop fd.offset).take (P.cellsOf fd.type))) = some xs := by
      unfold DataW.trod at h
      rw [hu] at h
      simp only at h
      split at h
      · next hl =>
        rw [Option.map_eq_some_iff] at h
        obtain ⟨xs, h1, h2⟩ := h
        injection h2 with h2 h3
        exact ⟨hl, xs, h2.symm, h1⟩
      · cases h
    obtain ⟨hl, xs, rfl, hx⟩ := key
    obtain ⟨x, a1, a2, a3⟩ := hf H enc w fuel cs xs hx fun q hq => hwt q (by simp only [DataW.weights, hu]; exact hq)
    exact ⟨x, a1, a2, by rw [hl, hc], fun i v y hv hy => a3 i v y (by rw [Nat.zero_add]; exact hv) hy⟩
theorem Rd.map {P : Program} {t : TypeId} {n : Nat} {α β : Type} {f : α → List V} {ok : α → Prop} {g : β → List V} {ok' : β → Prop} (h : Rd P t n f ok) (hm : ∀ x, ok x → ∃ y, ok' y ∧ g y = f x) : Rd P t n g ok' := by
  refine ⟨h.1, fun H enc w fuel cs d ps ht hwt => ?_⟩
  obtain ⟨x, a1, a2, a3, a4⟩ := h.2 H enc w fuel cs d ps ht hwt
  obtain ⟨y, b1, b2⟩ := hm x a1
  exact ⟨y, b1, by rw [b2]; exact a2, a3, by rw [b2]; exact a4⟩
theorem Rd.arg1 {P : Program} {t : TypeId} {α : Type} {f : α → V} {ok : α → Prop} (h : Rd P t 1 (fun x => [f x]) ok) {H : Type} {enc : TypeId × Value → H} {w : World} {v : Value} {d : DataW H} {ps : List MemPlace} (ht : DataW.Trod enc P w 0 (fun _ => true) true t v d ps)
    (hwt : ∀ q ∈ DataW.weights P t d, q ≤ reachBytes) (hone : v.oneCell' = true) : ∃ x, ok x ∧ RV (cz w) v (f x) := by
  obtain ⟨fuel, ht⟩ := ht
  obtain ⟨x, a1, a2, a3, a4⟩ := h.2 H enc w fuel _ d ps ht hwt
  refine ⟨x, a1, (a4 0 v (f x) ?_ rfl).2⟩
  rw [zhi hone]; rfl
theorem Rd.argN {P : Program} {t : TypeId} {n : Nat} {α : Type} {f : α → List V} {ok : α → Prop} (h : Rd P t n f ok) {H : Type} {enc : TypeId × Value → H} {w : World} {cs : Array Value} {d : DataW H} {ps : List MemPlace} (ht : DataW.Trod enc P w 0 (fun _ => true) true t (.agg cs) d ps) (hwt : ∀ q ∈ DataW.weights P t d, q ≤ reachBytes) :
    ∃ x, ok x ∧ RV (cz w) (.agg cs) (.agg (f x)) := by
  obtain ⟨fuel, ht⟩ := ht
  obtain ⟨x, a1, a2, a3, a4⟩ := h.2 H enc w fuel _ d ps ht hwt
  have a3 : cs.size = n := by simpa [Value.cells] using a3
  refine ⟨x, a1, .agg (by rw [a3, a2]) (fun i v hv => ?_) fun i v y hv hy => (a4 i v y (by simpa [Value.cells] using hv) hy).2⟩
  have hi : i < (f x).length := by rw [a2, ← a3]; exact (Array.getElem?_eq_some_iff.1 hv).1
  exact (a4 i v _ (by simpa [Value.cells] using hv) (List.getElem?_eq_getElem hi)).1
theorem weights_cons {H : Type} {P : Program} {t : TypeId} {ts : List TypeId} {d : DataW H} {ds : List (DataW H)} (h : (DataW.weightsEach P (t :: ts) (d :: ds)).all (· ≤ reachBytes) = true) :
    (∀ q ∈ DataW.weights P t d, q ≤ reachBytes) ∧ (DataW.weightsEach P ts ds).all (· ≤ reachBytes) = true := by
  simp only [DataW.weightsEach, List.all_append, Bool.and_eq_true] at h
  exact ⟨fun q hq => by simpa using List.all_eq_true.1 h.1 q hq, h.2⟩
theorem DC.law {P : Program} {f : FuncId} {xs : List V} (h : DC P f xs [] fun r _ => r = .bool true) {W : World} {args : Array Value} (hr : RVs (cz W) args xs) :
    Calls P f args W fun e W' => e = .returned (.bool true) ∧ RowKit.Below W.heap.size W W' := by
  refine (h W βz (fun _ => False) args (znZ W) hr).mono fun e W' hres => ?_
  obtain ⟨r, x, H', β', rfl, adv, hx, rfl⟩ := hres
  rw [hx.of_a]
  refine ⟨rfl, adv.ext.os, adv.ext.tape, adv.ext.output, adv.ext.size, fun k hk => adv.ext.block k hk fun ⟨i, e⟩ => ?_⟩
  simp [ownsB] at e
theorem RVs.cons {c : Cx} {v : Value} {x : V} {vs : Array Value} {xs : List V} (h : RV c v x) (hs : RVs c vs xs) : RVs c (#[v] ++ vs) (x :: xs) := by
  refine ⟨by simp [hs.1]; omega, fun i u y h1 h2 => ?_⟩
  cases i with
  | zero => simp [Array.getElem?_append] at h1 h2; subst h1; subst h2; exact h
  | succ i =>
    rw [Array.getElem?_append, if_neg (by simp)] at h1
    exact hs.2 i u y (by simpa using h1) (by simpa using h2)
end Go.Abs

namespace Go.Abs
attribute [local simp] I.vc sub merge place
structure Var where
  name : ByteArray
  lo : Int
  hi : Int
structure Term where
  c : Int
  x : Int
structure Con where
  kind : Int
  op : Int
  terms : List Term
  k : Int
  v : Int
  x : Int
  y : Int
  xs : List Int
  table : List Int
  rows : List (List Int)
structure Model where
  vars : List Var
  cons : List Con
  hasGoal : Bool
  goal : List Term
abbrev V.i (n : Int) : V := .a (.int .i64 n)
def vInts (l : List Int) : V := .view 1 (l.map fun n => [V.i n])
def vIntss (l : List (List Int)) : V := .view 1 (l.map fun r => [vInts r])
def Term.cells (t : Term) : List V := [V.i t.c, V.i t.x]
def vTerms (l : List Term) : V := .view 2 (l.map Term.cells)
def Var.cells (v : Var) : List V := [.str v.name, V.i v.lo, V.i v.hi]
def vVars (l : List Var) : V := .view 3 (l.map Var.cells)
def Con.cells (c : Con) : List V := [V.i c.kind, V.i c.op, vTerms c.terms, V.i c.k, V.i c.v, V.i c.x, V.i c.y, vInts c.xs, vInts c.table, vIntss c.rows]
def vCons (l : List Con) : V := .view 10 (l.map Con.cells)
def Model.cells (m : Model) : List V := [vVars m.vars, vCons m.cons, .bool m.hasGoal, vTerms m.goal]
def I64 (n : Int) : Prop := -9223372036854775808 ≤ n ∧ n ≤ 9223372036854775807
def okInts (l : List Int) : Prop := l.length ≤ maxLen ∧ ∀ n ∈ l, I64 n
def okTerm (t : Term) : Prop := I64 t.c ∧ I64 t.x
def okVar (v : Var) : Prop := v.name.size ≤ maxLen ∧ I64 v.lo ∧ I64 v.hi
def okTerms (l : List Term) : Prop := l.length ≤ maxLen ∧ ∀ t ∈ l, okTerm t
def okCon (c : Con) : Prop := I64 c.kind ∧ I64 c.op ∧ okTerms c.terms ∧ I64 c.k ∧ I64 c.v ∧ I64 c.x ∧ I64 c.y ∧ okInts c.xs ∧ okInts c.table ∧ c.rows.length ≤ maxLen ∧ ∀ r ∈ c.rows, okInts r
def okModel (m : Model) : Prop := (m.vars.length ≤ maxLen ∧ ∀ v ∈ m.vars, okVar v) ∧ (m.cons.length ≤ maxLen ∧ ∀ c ∈ m.cons, okCon c) ∧ okTerms m.goal
structure MTypes (P : Program) (tInt tBool tStr tInts tIntss tTerm tTerms tVar tVars tCon tCons tModel : TypeId) : Prop where
  bytes : 8 ≤ P.bytesOf tInt ∧ 8 ≤ P.bytesOf tInts ∧ 8 ≤ P.bytesOf tTerm ∧ 8 ≤ P.bytesOf tVar ∧ 8 ≤ P.bytesOf tCon
  int : P.underlying tInt = some (.int .i64) ∧ P.cellsOf tInt = 1
  bool : P.underlying tBool = some .bool ∧ P.cellsOf tBool = 1
  str : P.underlying tStr = some .string ∧ P.cellsOf tStr = 1
  ints : P.underlying tInts = some (.slice tInt) ∧ P.cellsOf tInts = 1
  intss : P.underlying tIntss = some (.slice tInts) ∧ P.cellsOf tIntss = 1
  term : ∃ fs, P.underlying tTerm = some (.struct fs) ∧ P.cellsOf tTerm = 2 ∧ fs.toList.map (fun f => (f.type, f.offset)) = [(tInt, 0), (tInt, 1)]
  terms : P.underlying tTerms = some (.slice tTerm) ∧ P.cellsOf tTerms = 1
  var : ∃ fs, P.underlying tVar = some (.struct fs) ∧ P.cellsOf tVar = 3 ∧ fs.toList.map (fun f => (f.type, f.offset)) = [(tStr, 0), (tInt, 1), (tInt, 2)]
  vars : P.underlying tVars = some (.slice tVar) ∧ P.cellsOf tVars = 1
  con : ∃ fs, P.underlying tCon = some (.struct fs) ∧ P.cellsOf tCon = 10 ∧ fs.toList.map (fun f => (f.type, f.offset)) = [(tInt, 0), (tInt, 1), (tTerms, 2), (tInt, 3), (tInt, 4), (tInt, 5), (tInt, 6), (tInts, 7), (tInts, 8), (tIntss, 9)]
  cons : P.underlying tCons = some (.slice tCon) ∧ P.cellsOf tCons = 1
  model : ∃ fs, P.underlying tModel = some (.struct fs) ∧ P.cellsOf tModel = 4 ∧ fs.toList.map (fun f => (f.type, f.offset)) = [(tVars, 0), (tCons, 1), (tBool, 2), (tTerms, 3)]
def fl (t : TypeId) (o : Nat) : Field := { (default : Field) with type := t, offset := o }
def maxS : Nat := 17592186044416
def zInts (l : List Int) : Prop := okInts l ∧ l.length ≤ maxS
def zTerms (l : List Term) : Prop := okTerms l ∧ l.length ≤ maxS
def zVar (v : Var) : Prop := okVar v ∧ v.name.size ≤ reachBytes
def zCon (c : Con) : Prop := okCon c ∧ c.terms.length ≤ maxS ∧ c.xs.length ≤ maxS ∧ c.table.length ≤ maxS ∧ c.rows.length ≤ maxS ∧ ∀ r ∈ c.rows, r.length ≤ maxS
def zModel (m : Model) : Prop := okModel m ∧ m.vars.length ≤ maxS ∧ m.cons.length ≤ maxS ∧ m.goal.length ≤ maxS ∧ (∀ v ∈ m.vars, v.name.size ≤ reachBytes) ∧ ∀ c ∈ m.cons, zCon c
theorem zfD {n b : Nat} (h : n * b ≤ reachBytes) (hb : 8 ≤ b) : n ≤ maxS := by
  have h1 : n * 8 ≤ n * b := Nat.mul_le_mul_left _ hb
  unfold reachBytes at h
  unfold maxS
  omega
theorem RdF.of_map {P : Program} {fs : List Field} {k n : Nat} {α : Type} {g : α → List V} {ok : α → Prop} (h : RdF P fs k n g ok) {gs : List Field} (he : gs.map (fun f => (f.type, f.offset)) = fs.map (fun f => (f.type, f.offset))) : RdF P gs k n g ok := by
  intro H enc w fuel cs xs hx hwt
  have ht : gs.map (·.type) = fs.map (·.type) := by have := congrArg (List.map Prod.fst) he; simpa [Function.comp_def] using this
  rw [ht] at hwt
  refine h H enc w fuel cs xs ?_ hwt
  have : ∀ (l : List Field), l.mapM (fun fd => DataW.trod enc P w 0 (fun _ => true) true fuel fd.type ((cs.drop fd.offset).take (P.cellsOf fd.type))) = (l.map fun f => (f.type, f.offset)).mapM (fun q => DataW.trod enc P w 0 (fun _ => true) true fuel q.1 ((cs.drop q.2).take (P.cellsOf q.1))) := by
    intro l
    induction l with
    | nil => rfl
    | cons a l ih => rw [List.map_cons, List.mapM_cons, List.mapM_cons, ih]
  rw [this] at hx ⊢
  rw [← he]; exact hx
section
variable {P : Program} {tInt tBool tStr tInts tIntss tTerm tTerms tVar tVars tCon tCons tModel : TypeId} (M : MTypes P tInt tBool tStr tInts tIntss tTerm tTerms tVar tVars tCon tCons tModel)
include M
theorem MTypes.rdInt : Rd P tInt 1 (fun n : Int => [V.i n]) I64 :=
  (Rd.int M.int.1 M.int.2).map fun n h => ⟨n, by
    have : (decide (IntKind.i64.min ≤ n) && decide (n ≤ IntKind.i64.max)) = true := h
    simp only [Bool.and_eq_true, decide_eq_true_eq] at this
    exact ⟨this.1, this.2⟩, rfl⟩
theorem MTypes.rdInts : Rd P tInts 1 (fun l : List Int => [vInts l]) zInts :=
  (Rd.slice M.ints.1 M.ints.2 (by omega) M.rdInt).map fun l h => ⟨l, ⟨⟨h.1, h.2.2⟩, zfD h.2.1 M.bytes.1⟩, rfl⟩
theorem MTypes.rdIntss : Rd P tIntss 1 (fun l : List (List Int) => [vIntss l]) (fun l => l.length ≤ maxLen ∧ l.length ≤ maxS ∧ ∀ r ∈ l, zInts r) :=
  (Rd.slice M.intss.1 M.intss.2 (by omega) M.rdInts).map fun l h => ⟨l, ⟨h.1, zfD h.2.1 M.bytes.2.1, h.2.2⟩, rfl⟩
theorem MTypes.rdTerm : Rd P tTerm 2 Term.cells okTerm := by
  obtain ⟨fs, h1, h2, h3⟩ := M.term
  refine (Rd.struct h1 h2 (RdF.of_map (fs := [fl tInt 0, fl tInt 1]) (.cons rfl M.rdInt (.cons rfl M.rdInt .nil)) h3)).map fun x h => ?_
  exact ⟨⟨x.1, x.2.1⟩, ⟨h.1, h.2.1⟩, rfl⟩
theorem MTypes.rdTerms : Rd P tTerms 1 (fun l : List Term => [vTerms l]) zTerms :=
  (Rd.slice M.terms.1 M.terms.2 (by omega) M.rdTerm).map fun l h => ⟨l, ⟨⟨h.1, h.2.2⟩, zfD h.2.1 M.bytes.2.2.1⟩, rfl⟩
theorem MTypes.rdVar : Rd P tVar 3 Var.cells zVar := by
  obtain ⟨fs, h1, h2, h3⟩ := M.var
  refine (Rd.struct h1 h2 (RdF.of_map (fs := [fl tStr 0, fl tInt 1, fl tInt 2]) (.cons rfl (Rd.str M.str.1 M.str.2) (.cons rfl M.rdInt (.cons rfl M.rdInt .nil))) h3)).map fun x h => ?_
  exact ⟨⟨x.1, x.2.1, x.2.2.1⟩, ⟨⟨h.1.1, h.2.1, h.2.2.1⟩, h.1.2⟩, rfl⟩
theorem MTypes.rdCon : Rd P tCon 10 Con.cells zCon := by
  obtain ⟨fs, h1, h2, h3⟩ := M.con
  refine (Rd.struct h1 h2 (RdF.of_map (fs := [fl tInt 0, fl tInt 1, fl tTerms 2, fl tInt 3, fl tInt 4, fl tInt 5, fl tInt 6, fl tInts 7, fl tInts 8, fl tIntss 9])
    (.cons rfl M.rdInt (.cons rfl M.rdInt (.cons rfl M.rdTerms (.cons rfl M.rdInt (.cons rfl M.rdInt (.cons rfl M.rdInt (.cons rfl M.rdInt (.cons rfl M.rdInts (.cons rfl M.rdInts (.cons rfl M.rdIntss .nil)))))))))) h3)).map fun x h => ?_
  obtain ⟨a1, a2, a3, a4, a5, a6, a7, a8, a9, a10, _⟩ := h
  exact ⟨⟨x.1, x.2.1, x.2.2.1, x.2.2.2.1, x.2.2.2.2.1, x.2.2.2.2.2.1, x.2.2.2.2.2.2.1, x.2.2.2.2.2.2.2.1, x.2.2.2.2.2.2.2.2.1, x.2.2.2.2.2.2.2.2.2.1⟩, ⟨⟨a1, a2, a3.1, a4, a5, a6, a7, a8.1, a9.1, a10.1, fun r hr => (a10.2.2 r hr).1⟩, a3.2, a8.2, a9.2, a10.2.1, fun r hr => (a10.2.2 r hr).2⟩, rfl⟩
theorem MTypes.rdModel : Rd P tModel 4 Model.cells zModel := by
  obtain ⟨fs, h1, h2, h3⟩ := M.model
  refine (Rd.struct h1 h2 (RdF.of_map (fs := [fl tVars 0, fl tCons 1, fl tBool 2, fl tTerms 3])
    (.cons rfl (Rd.slice M.vars.1 M.vars.2 (by omega) M.rdVar) (.cons rfl (Rd.slice M.cons.1 M.cons.2 (by omega) M.rdCon) (.cons rfl (Rd.bool M.bool.1 M.bool.2) (.cons rfl M.rdTerms .nil)))) h3)).map fun x h => ?_
  obtain ⟨a1, a2, a3, a4, _⟩ := h
  exact ⟨⟨x.1, x.2.1, x.2.2.1, x.2.2.2.1⟩, ⟨⟨⟨a1.1, fun v hv => (a1.2.2 v hv).1⟩, ⟨a2.1, fun c hc => (a2.2.2 c hc).1⟩, a4.1⟩, zfD a1.2.1 M.bytes.2.2.2.1, zfD a2.2.1 M.bytes.2.2.2.2, a4.2, fun v hv => (a1.2.2 v hv).2, fun c hc => a2.2.2 c hc⟩, rfl⟩
end
end Go.Abs

namespace Go.Abs
structure Needs where
  terms : Bool
  xs : Bool
  table : Bool
  rows : Bool
  x : Bool
  y : Bool
  k : Bool
  op : Bool
  v : Bool
  deriving DecidableEq
def Needs.cells (n : Needs) (f : FuncId) : List V := [.bool n.terms, .bool n.xs, .bool n.table, .bool n.rows, .bool n.x, .bool n.y, .bool n.k, .bool n.op, .bool n.v, .fn (.func f) [] []]
def needs (k : Int) : Option Needs :=
  if k = 1 then some ⟨true, false, false, false, false, false, true, true, false⟩
  else if k = 2 then some ⟨false, false, false, false, true, true, true, false, false⟩
  else if k = 3 then some ⟨false, true, false, false, false, false, false, false, false⟩
  else if k = 4 then some ⟨false, false, true, false, true, true, false, false, false⟩
  else if k = 5 then some ⟨false, true, false, false, false, true, false, false, false⟩
  else if k = 6 then some ⟨false, true, false, false, false, true, false, false, false⟩
  else if k = 7 then some ⟨true, false, false, false, true, false, true, false, false⟩
  else if k = 8 then some ⟨false, true, false, true, false, false, false, false, false⟩
  else if k = 9 then some ⟨false, true, false, false, false, false, true, true, true⟩
  else none
def withinB (n most : Int) : Bool := decide (-most ≤ n) && decide (n ≤ most)
def greatB (l : List Int) : Bool := l.any fun t => !withinB t 1000000000
def countsB (there : Bool) (n : Nat) : Bool := !there || (decide (1 ≤ n) && decide (n ≤ 64))
def badVarB (vars : Int) (l : List Term) : Bool := l.any fun t => decide (t.x < 0) || decide (vars ≤ t.x)
def badCoefB (l : List Term) : Bool := l.any fun t => decide (t.c = 0) || !withinB t.c 1000000
def noB (vars x : Int) : Bool := decide (x < 0) || decide (vars ≤ x)
def fieldB (c : Con) (n : Needs) : Bool :=
  (!n.op && decide (c.op ≠ 0)) || (!n.k && decide (c.k ≠ 0)) || (!n.v && decide (c.v ≠ 0)) || (!n.x && decide (c.x ≠ 0)) || (!n.y && decide (c.y ≠ 0)) ||
  (!n.terms && decide (0 < c.terms.length)) || (!n.xs && decide (0 < c.xs.length)) || (!n.table && decide (0 < c.table.length)) || (!n.rows && decide (0 < c.rows.length))
def wideB (c : Con) (n : Needs) : Bool :=
  n.rows && (decide (8 < c.xs.length) || !countsB true c.rows.length || c.rows.any fun r => decide (r.length ≠ c.xs.length))
def conN (c : Con) (vars : Int) (n : Needs) : Int :=
  if n.op && (decide (c.op < 1) || decide (3 < c.op)) then 43
  else if fieldB c n then 48
  else if !countsB n.terms c.terms.length || !countsB n.xs c.xs.length || !countsB n.table c.table.length || wideB c n then 47
  else if badVarB vars c.terms || (n.x && noB vars c.x) || (n.y && noB vars c.y) || c.xs.any (noB vars) then 44
  else if badCoefB c.terms then 45
  else if !withinB c.k 1000000000 || !withinB c.v 1000000000 || greatB c.table || c.rows.any greatB then 46
  else 0
def conB (c : Con) (vars : Int) : Int :=
  match needs c.kind with
  | none => 43
  | some n => conN c vars n
def letterB (r : Nat) : Bool := (decide (97 ≤ r) && decide (r ≤ 122)) || (decide (65 ≤ r) && decide (r ≤ 90)) || decide (r = 95)
def nameFrom (s : ByteArray) : Nat → Nat → Bool
  | 0, _ => true
  | f + 1, pos => if pos < s.size then
      (if !letterB (Utf8.decode s pos).1 && (decide (pos = 0) || decide ((Utf8.decode s pos).1 < 48) || decide (57 < (Utf8.decode s pos).1)) then false else nameFrom s f (pos + (Utf8.decode s pos).2))
    else true
def nameB (s : ByteArray) : Bool := nameFrom s (s.size + 1) 0 && decide (1 ≤ s.size) && decide (s.size ≤ 16)
def varB (l : List Var) (i : Nat) (v : Var) : Int :=
  if !nameB v.name || (l.take i).any fun w => decide (w.name = v.name) then 41
  else if !withinB v.lo 1000000000 || !withinB v.hi 1000000000 || decide (v.hi < v.lo) || decide (64 ≤ v.hi - v.lo) then 42
  else 0
def goalB (m : Model) : Int :=
  if !m.hasGoal && decide (0 < m.goal.length) then 48
  else if !countsB m.hasGoal m.goal.length then 47
  else if badVarB m.vars.length m.goal then 44
  else if badCoefB m.goal then 45
  else 0
def firstBad {α : Type} (f : Nat → α → Int) : Nat → List α → Option (Nat × Int)
  | _, [] => none
  | i, x :: l => if f i x = 0 then firstBad f (i + 1) l else some (i, f i x)
def checkB (m : Model) : Int × Int :=
  if m.vars.length = 0 ∨ 32 < m.vars.length then (0, 40)
  else match firstBad (varB m.vars) 0 m.vars with
    | some (i, e) => ((i : Int), e)
    | none => if 64 < m.cons.length then ((m.vars.length : Int), 49)
      else match firstBad (fun _ c => conB c m.vars.length) 0 m.cons with
        | some (i, e) => ((m.vars.length : Int) + i, e)
        | none => if goalB m = 0 then (0, 0) else ((m.vars.length : Int) + m.cons.length, goalB m)
def rightB (m : Model) : Bool := decide ((checkB m).2 = 0)
end Go.Abs

namespace Go.Abs
def sumI (g : Int → Int) (l : List Term) : Int := (l.map fun t => t.c * g t.x).sum
def atI (l : List Int) (x : Int) : Int := l.getD x.toNat 0
def worthB (m : Model) (values : List Int) : Int :=
  if !rightB m || decide (values.length ≠ m.vars.length) || greatB values then 0 else sumI (atI values) m.goal
def varAt (m : Model) (x : Int) : Var := m.vars.getD x.toNat ⟨⟨#[]⟩, 0, 0⟩
def endOf (m : Model) (least : Bool) (t : Term) : Int := if decide (0 < t.c) = least then t.c * (varAt m t.x).lo else t.c * (varAt m t.x).hi
def endsI (m : Model) (least : Bool) (l : List Term) : Int := (l.map (endOf m least)).sum
def endsB (m : Model) (least : Bool) : Int := if !rightB m then 0 else endsI m least m.goal
def prodFrom (most : Int) : Int → List Var → Int × Bool
  | n, [] => (n, true)
  | n, v :: l => if most.tdiv (v.hi - v.lo + 1) < n then (0, false) else prodFrom most (n * (v.hi - v.lo + 1)) l
def prodB (m : Model) (most : Int) : Int × Bool := if !rightB m || decide (most < 1) then (0, false) else prodFrom most 1 m.vars
theorem zdr {c v : Int} (hc : -1000000 ≤ c ∧ c ≤ 1000000) (hv : -1000000000 ≤ v ∧ v ≤ 1000000000) : -1000000000000000 ≤ c * v ∧ c * v ≤ 1000000000000000 := by
  have h : (c * v).natAbs ≤ 1000000 * 1000000000 := by
    rw [Int.natAbs_mul]
    exact Nat.mul_le_mul (by omega) (by omega)
  omega
theorem zeB {α : Type} {f : Nat → α → Int} : ∀ {l : List α} {i : Nat}, firstBad f i l = none → ∀ (j : Nat) (x : α), l[j]? = some x → f (i + j) x = 0 := by
  intro l
  induction l with
  | nil => intro i _ j x h; simp at h
  | cons y l ih =>
    intro i h j x hj
    simp only [firstBad] at h
    split at h
    · next h0 =>
      cases j with
      | zero => simp at hj; subst hj; simpa using h0
      | succ j =>
        have := ih h j x (by simpa using hj)
        rw [← this]; congr 1; omega
    · cases h
theorem zeC {α : Type} {f : Nat → α → Int} : ∀ {l : List α} {i : Nat} {p : Nat × Int}, firstBad f i l = some p → p.2 ≠ 0 := by
  intro l
  induction l with
  | nil => intro i p h; simp [firstBad] at h
  | cons y l ih =>
    intro i p h
    simp only [firstBad] at h
    split at h
    · exact ih h
    · next h0 => cases h; exact h0
structure Right (m : Model) : Prop where
  nv : 1 ≤ m.vars.length ∧ m.vars.length ≤ 32
  nc : m.cons.length ≤ 64
  var : ∀ (i : Nat) (v : Var), m.vars[i]? = some v → varB m.vars i v = 0
  con : ∀ c ∈ m.cons, conB c m.vars.length = 0
  goal : goalB m = 0
theorem zdi {m : Model} : rightB m = true ↔ Right m := by
  unfold rightB checkB
  simp only [decide_eq_true_eq]
  constructor
  · intro h
    split at h
    · simp at h
    · next h1 =>
      split at h
      · next p i e hp => exact absurd h (zeC hp)
      · next hv =>
        split at h
        · simp at h
        · next h2 =>
          split at h
          · next p i e hp => exact absurd h (zeC hp)
          · next hc =>
            split at h
            · next hg =>
              refine ⟨by omega, by omega, fun i v hi => ?_, fun c hc' => ?_, hg⟩
              · have := zeB hv i v hi; simpa using this
              · obtain ⟨j, hj⟩ := List.getElem?_of_mem hc'
                have := zeB hc j c hj; simpa using this
            · next hg => exact absurd h hg
  · intro h
    rw [if_neg (by have := h.nv; omega)]
    have key : ∀ {α : Type} (f : Nat → α → Int) (l : List α) (i : Nat), (∀ (j : Nat) (x : α), l[j]? = some x → f (i + j) x = 0) → firstBad f i l = none := by
      intro α f l
      induction l with
      | nil => intro i _; rfl
      | cons x l ih =>
        intro i h
        simp only [firstBad]
        rw [if_pos (by simpa using h 0 x rfl)]
        refine ih _ fun j y hj => ?_
        have := h (j + 1) y (by simpa using hj)
        rw [← this]; congr 1; omega
    rw [key _ m.vars 0 fun j x hj => by rw [Nat.zero_add]; exact h.var j x hj]
    simp only
    rw [if_neg (by have := h.nc; omega), key _ m.cons 0 fun j x hj => h.con x (List.mem_of_getElem? hj)]
    simp [h.goal]
structure VarOk (v : Var) : Prop where
  lo : -1000000000 ≤ v.lo ∧ v.lo ≤ 1000000000
  hi : -1000000000 ≤ v.hi ∧ v.hi ≤ 1000000000
  le : v.lo ≤ v.hi
  dom : v.hi - v.lo < 64
theorem VarOk.of {l : List Var} {i : Nat} {v : Var} (h : varB l i v = 0) : VarOk v := by
  unfold varB at h
  split at h
  · cases h
  · split at h
    · cases h
    · next h2 =>
      simp only [withinB, Bool.or_eq_true, Bool.not_eq_true', Bool.and_eq_false_iff, decide_eq_true_eq, decide_eq_false_iff_not, not_or, Bool.not_eq_false] at h2
      constructor <;> omega
structure TermOk (vars : Nat) (t : Term) : Prop where
  x : 0 ≤ t.x ∧ t.x < vars
  c : -1000000 ≤ t.c ∧ t.c ≤ 1000000 ∧ t.c ≠ 0
theorem TermOk.of {vars : Nat} {l : List Term} (h1 : badVarB vars l = false) (h2 : badCoefB l = false) : ∀ t ∈ l, TermOk vars t := by
  intro t ht
  unfold badVarB at h1
  unfold badCoefB at h2
  rw [List.any_eq_false] at h1 h2
  have h1 := h1 t ht
  have h2 := h2 t ht
  simp only [withinB, Bool.or_eq_true, Bool.not_eq_true', Bool.and_eq_false_iff, decide_eq_true_eq, decide_eq_false_iff_not, not_or, Bool.not_eq_false] at h1 h2
  constructor <;> omega
theorem Right.terms {m : Model} (h : Right m) : (∀ t ∈ m.goal, TermOk m.vars.length t) ∧ m.goal.length ≤ 64 := by
  have hg := h.goal
  unfold goalB at hg
  split at hg
  · cases hg
  · next h1 =>
    split at hg
    · cases hg
    · next h2 =>
      split at hg
      · cases hg
      · next h3 =>
        split at hg
        · cases hg
        · next h4 =>
          refine ⟨TermOk.of (by simpa using h3) (by simpa using h4), ?_⟩
          simp [countsB] at h1 h2
          cases hh : m.hasGoal
          · simp [h1 hh]
          · have := h2 hh
            omega
theorem Right.varAt {m : Model} (h : Right m) {x : Int} (h0 : 0 ≤ x) (h1 : x < m.vars.length) : m.vars[x.toNat]? = some (varAt m x) ∧ VarOk (varAt m x) := by
  have hi : x.toNat < m.vars.length := by omega
  have : m.vars[x.toNat]? = some (Abs.varAt m x) := by simp [Abs.varAt, List.getD, List.getElem?_eq_getElem hi]
  exact ⟨this, VarOk.of (h.var _ _ this)⟩
def Within (m : Model) (l : List Int) : Prop := l.length = m.vars.length ∧ ∀ (i : Nat) (v : Var), m.vars[i]? = some v → v.lo ≤ l.getD i 0 ∧ l.getD i 0 ≤ v.hi
theorem Within.great {m : Model} (h : Right m) {l : List Int} (hw : Within m l) : greatB l = false := by
  unfold greatB
  rw [List.any_eq_false]
  intro x hx
  obtain ⟨i, hi⟩ := List.getElem?_of_mem hx
  have hlt : i < m.vars.length := by rw [← hw.1]; exact (List.getElem?_eq_some_iff.1 hi).1
  have hv := List.getElem?_eq_getElem hlt
  have h1 := hw.2 i _ hv
  have h2 := VarOk.of (h.var i _ hv)
  have h3 : l.getD i 0 = x := by simp [List.getD, hi]
  rw [h3] at h1
  have := h2.lo; have := h2.hi
  simp [withinB]
  omega
end Go.Abs

namespace Go.Abs.G
attribute [local simp] I.vc sub merge place
def clr (a j : Nat) : Nat := (BitVec.ofNat 32 a &&& ~~~(1#32 <<< j)).toNat
def sett (a j : Nat) : Nat := (BitVec.ofNat 32 a ||| (1#32 <<< j)).toNat
theorem zmq (a j : Nat) : clr a j < 4294967296 := BitVec.isLt _
theorem zks (a j : Nat) : sett a j < 4294967296 := BitVec.isLt _
theorem zkt (j i : Nat) (hj : j < 32) : (1#32 <<< j).getLsbD i = decide (i = j) := by
  rw [BitVec.getLsbD_shiftLeft]
  by_cases h : i = j
  · subst h; simp [hj]
  · by_cases h2 : i < j
    · simp [h2, h]
    · have : i - j ≠ 0 := by omega
      simp [h, BitVec.getLsbD_one, this]
theorem zjD {a j : Nat} (ha : a < 4294967296) (hj : j < 32) (i : Nat) : (clr a j).testBit i = (a.testBit i && !decide (i = j)) := by
  unfold clr
  rw [BitVec.testBit_toNat, BitVec.getLsbD_and, BitVec.getLsbD_not, zkt j i hj, BitVec.getLsbD_ofNat]
  by_cases h : i < 32
  · simp [h]
  · have : a.testBit i = false := Nat.testBit_lt_two_pow (Nat.lt_of_lt_of_le (show a < 2 ^ 32 from ha) (Nat.pow_le_pow_right (by omega) (by omega : 32 ≤ i)))
    simp [h, this]
theorem ziJ {a j : Nat} (ha : a < 4294967296) (hj : j < 32) (i : Nat) : (sett a j).testBit i = (a.testBit i || decide (i = j)) := by
  unfold sett
  rw [BitVec.testBit_toNat, BitVec.getLsbD_or, zkt j i hj, BitVec.getLsbD_ofNat]
  by_cases h : i < 32
  · simp [h]
  · have : a.testBit i = false := Nat.testBit_lt_two_pow (Nat.lt_of_lt_of_le (show a < 2 ^ 32 from ha) (Nat.pow_le_pow_right (by omega) (by omega : 32 ≤ i)))
    simp [h, this]
end Go.Abs.G

namespace Go.Abs.G
open Go.Proofs
attribute [local simp] I.vc sub merge place
structure Dom where
  from' : Int
  width : Nat
  a : Nat
  b : Nat
abbrev V.w (n : Nat) : V := .a (.int .u32 n)
def Dom.row (d : Dom) : List V := [V.i d.from', V.i d.width, V.w d.a, V.w d.b]
def Dom.has (d : Dom) (i : Nat) : Bool := if i < 32 then d.a.testBit i else d.b.testBit (i - 32)
structure Dom.ok (d : Dom) : Prop where
  f : -1000000000 ≤ d.from' ∧ d.from' ≤ 1000000000
  w : d.width ≤ 64
  a : d.a < 4294967296
  b : d.b < 4294967296
end Go.Abs.G

namespace Go.Abs.G
open Go.Proofs
attribute [local simp] I.vc sub merge place
end Go.Abs.G

namespace Go.Abs.G
open Go.Proofs
attribute [local simp] I.vc sub merge place
def pop (n : Nat) : Nat := (List.range 32).countP n.testBit
end Go.Abs.G

namespace Go.Abs.G
open Go.Proofs
attribute [local simp] I.vc sub merge place
def Dom.drop (d : Dom) (k : Nat) : Dom := if k < 32 then { d with a := clr d.a k } else { d with b := clr d.b (k - 32) }
def goesB (kind v x : Int) : Bool := if kind = 1 then decide (x < v) else if kind = 2 then decide (v < x) else decide (kind = 3) && decide (x = v)
end Go.Abs.G

namespace Go.Abs.G
open Go.Proofs
attribute [local simp] I.vc sub merge place
def U (s : List Dom) (T : List (List Ce)) : Heap := [.mem false [1, 2] [[.own 1 4 0 s.length s.length, .own 2 1 0 T.length T.length]], .mem false [] (s.map Dom.row), .tree [] T]
structure StOk (s : List Dom) (T : List (List Ce)) : Prop where
  n : s.length ≤ 64
  k : T.length ≤ 1000000
  d : ∀ d ∈ s, d.ok
  t : ∀ f, Ce.renR f T = T
def isB (s : List Dom) (x : Int) : Bool := decide (0 ≤ x) && decide (x < s.length)
def Dom.size (d : Dom) : Nat := pop d.a + pop d.b
section
variable {s s' : List Dom} {T T' : List (List Ce)} {E : Heap}
@[simp] theorem U_len : (U s T).length = 3 := rfl
@[simp] theorem U_0 : (U s T)[0]? = some (.mem false [1, 2] [[.own 1 4 0 s.length s.length, .own 2 1 0 T.length T.length]]) := rfl
@[simp] theorem U_1 : (U s T)[1]? = some (.mem false [] (s.map Dom.row)) := rfl
@[simp] theorem U_2 : (U s T)[2]? = some (.tree [] T) := rfl
@[simp] theorem UE_0 : (U s T ++ E)[0]? = some (.mem false [1, 2] [[.own 1 4 0 s.length s.length, .own 2 1 0 T.length T.length]]) := rfl
@[simp] theorem UE_1 : (U s T ++ E)[1]? = some (.mem false [] (s.map Dom.row)) := rfl
@[simp] theorem UE_2 : (U s T ++ E)[2]? = some (.tree [] T) := rfl
@[simp] theorem zqs : clos (U s T) 8 [0] = [0, 1, 2] := by simp [clos, addAll, O.refs, U]
@[simp] theorem zpK : clos (U s T ++ E) 8 [0] = [0, 1, 2] := by simp [clos, addAll, O.refs, U]
@[simp] theorem zpV (f : Nat → Nat) (d : Dom) : V.renL f d.row = d.row := rfl
end
end Go.Abs.G

namespace Go.Abs.G
open Go.Proofs
section
variable {s s' : List Dom} {T T' : List (List Ce)} {E : Heap}
@[simp] theorem zpO : clos (U s T) 8 [1] = [1] := by simp [clos, addAll, O.refs, U]
end
theorem StOk.row {s : List Dom} {T : List (List Ce)} (hs : StOk s T) {x : Int} (h : isB s x = true) : ∃ i d, x = ((i : Nat) : Int) ∧ i < s.length ∧ s[i]? = some d ∧ d.ok ∧ (s.map Dom.row)[i]? = some d.row := by
  simp only [isB, Bool.and_eq_true, decide_eq_true_eq] at h
  have hlt : x.toNat < s.length := by omega
  exact ⟨x.toNat, s[x.toNat], by omega, hlt, by simp [hlt], hs.d _ (List.getElem_mem hlt), by simp [hlt]⟩
attribute [local simp] I.vc
end Go.Abs.G

namespace Go.Abs.G
open Go.Proofs
attribute [local simp] I.vc
section
variable (d : Dom)
@[simp] theorem zpU : d.row.length = 4 := rfl
@[simp] theorem zpe : d.row.head? = some (V.i d.from') := rfl
@[simp] theorem row_0 : d.row[0]? = some (V.i d.from') := rfl
@[simp] theorem row_1 : d.row[1]? = some (V.i d.width) := rfl
@[simp] theorem row_2 : d.row[2]? = some (V.w d.a) := rfl
@[simp] theorem row_3 : d.row[3]? = some (V.w d.b) := rfl
@[simp] theorem zqx (h) : d.row[0]'h = V.i d.from' := rfl
@[simp] theorem zqy (h) : d.row[1]'h = V.i d.width := rfl
@[simp] theorem zqz (h) : d.row[2]'h = V.w d.a := rfl
@[simp] theorem zqA (h) : d.row[3]'h = V.w d.b := rfl
end
section
variable {s s' : List Dom} {T T' : List (List Ce)} {E : Heap}
@[simp] theorem UE_3 (o : O) : (U s T ++ (o :: E))[3]? = some o := rfl
@[simp] theorem UE_3' (o : O) (h) : (U s T ++ (o :: E))[3]'h = o := rfl
@[simp] theorem UE_0' (h) : (U s T ++ E)[0]'h = .mem false [1, 2] [[.own 1 4 0 s.length s.length, .own 2 1 0 T.length T.length]] := rfl
@[simp] theorem UE_1' (h) : (U s T ++ E)[1]'h = .mem false [] (s.map Dom.row) := rfl
@[simp] theorem UE_2' (h) : (U s T ++ E)[2]'h = .tree [] T := rfl
@[simp] theorem UE_4 (o o' : O) : (U s T ++ (o :: o' :: E))[4]? = some o' := rfl
@[simp] theorem UE_4' (o o' : O) (h) : (U s T ++ (o :: o' :: E))[4]'h = o' := rfl
@[simp] theorem zpL (o o' : O) : (U s T ++ (o :: E)).set 3 o' = U s T ++ (o' :: E) := rfl
@[simp] theorem zpM (o o1 o' : O) : (U s T ++ (o :: o1 :: E)).set 4 o' = U s T ++ (o :: o' :: E) := rfl
end
end Go.Abs.G

namespace Go.Abs.G
open Go.Proofs
attribute [local simp] I.vc
section
variable {s s' : List Dom} {T T' : List (List Ce)} {E : Heap}
@[simp] theorem zpg (d : Dom) : List.take 4 d.row = d.row := rfl
@[simp] theorem zpf (d : Dom) : V.idsL d.row = [] := rfl
@[simp] theorem zqt : (U s T).map (limO 5) = U s T := rfl
@[simp] theorem zpP (a b : O) : List.take 5 (U s T ++ [a, b]) = U s T ++ [a, b] := rfl
end
def cutTo (k v : Int) (d : Dom) : Nat → Dom
  | 0 => d
  | n + 1 => if goesB k v (d.from' + n) then (cutTo k v d n).drop n else cutTo k v d n
theorem zjM (d : Dom) (k : Nat) : (d.drop k).from' = d.from' := by unfold Dom.drop; split <;> rfl
theorem zi0 (d : Dom) (k : Nat) : (d.drop k).width = d.width := by unfold Dom.drop; split <;> rfl
theorem zmY {d : Dom} (k : Nat) (h : d.ok) : (d.drop k).ok := by
  unfold Dom.drop; split
  · exact ⟨h.f, h.w, zmq _ _, h.b⟩
  · exact ⟨h.f, h.w, h.a, zmq _ _⟩
theorem zeV (k v : Int) (d : Dom) : ∀ n, (cutTo k v d n).from' = d.from'
  | 0 => rfl
  | n + 1 => by unfold cutTo; split <;> simp [zjM, zeV k v d n]
theorem zdz (k v : Int) (d : Dom) : ∀ n, (cutTo k v d n).width = d.width
  | 0 => rfl
  | n + 1 => by unfold cutTo; split <;> simp [zi0, zdz k v d n]
theorem zdT (k v : Int) {d : Dom} (h : d.ok) : ∀ n, (cutTo k v d n).ok
  | 0 => h
  | n + 1 => by unfold cutTo; split; exact zmY _ (zdT k v h n); exact zdT k v h n
def Dom.none (d : Dom) : Bool := decide (d.a = 0) && decide (d.b = 0)
def Dom.same (d e : Dom) : Bool := decide (d.a = e.a) && decide (d.b = e.b)
def cutS (s : List Dom) (k x v : Int) : List Dom × Bool × Bool :=
  if isB s x then match s[x.toNat]? with
    | some d => if (cutTo k v d d.width).none then (s, false, false) else (s.set x.toNat (cutTo k v d d.width), !(cutTo k v d d.width).same d, true)
    | none => (s, false, true)
  else (s, false, true)
end Go.Abs.G

namespace Go.Abs.G
open Go.Proofs
attribute [local simp] I.vc
theorem DC.nilv {P : Program} {f : FuncId} {xs : List V} {H : Heap} {Q Q' : V → Heap → Prop} (es : Nat) (h : DC P f xs H Q) (hq : ∀ x H', Q x H' → Q' x H' ∨ (x = .a (.slice none 0 0) ∧ Q' (.view es []) H')) : DC P f xs H Q' := fun w β F vs hk hr =>
  (h w β F vs hk hr).mono fun e w' ⟨r, x, H', β2, h1, h2, h3, h4⟩ => by
    rcases hq x H' h4 with hQ | ⟨rfl, hQ⟩
    · exact ⟨r, x, H', β2, h1, h2, h3, hQ⟩
    · cases h3 with
      | a => exact ⟨_, .view es [], H', β2, h1, h2, .nilv, hQ⟩
def Dom.vals (d : Dom) (n : Nat) : List Int := ((List.range n).filter d.has).map fun i => d.from' + (i : Nat)
def valsB (s : List Dom) (x : Int) : List Int := if isB s x then ((s[x.toNat]?).map fun d => d.vals d.width).getD [] else []
section
variable {s s' : List Dom} {T T' : List (List Ce)} {E : Heap}
@[simp] theorem zpQ (a b c : O) : List.take 6 (U s T ++ (a :: b :: c :: E)) = U s T ++ [a, b, c] := rfl
@[simp] theorem zoT (a : O) : List.take 6 (U s T ++ [a]) = U s T ++ [a] := rfl
@[simp] theorem zqu : (U s T).map (limO 6) = U s T := rfl
@[simp] theorem UE_5 (a b c : O) : (U s T ++ (a :: b :: c :: E))[5]? = some c := rfl
@[simp] theorem UE_5' (a b c : O) (h) : (U s T ++ (a :: b :: c :: E))[5]'h = c := rfl
@[simp] theorem zpN (a b c o' : O) : (U s T ++ (a :: b :: c :: E)).set 5 o' = U s T ++ (a :: b :: o' :: E) := rfl
end
end Go.Abs.G

namespace Go.Abs.G
open Go.Proofs
attribute [local simp] I.vc
section
variable {s s' : List Dom} {T T' : List (List Ce)} {E : Heap}
@[simp] theorem zoR (a b : O) : List.take 5 (U s T ++ (a :: b :: E)) = U s T ++ [a, b] := rfl
@[simp] theorem zoS : List.take 5 (U s T) = U s T := rfl
end
end Go.Abs.G

namespace Go.Abs.G
open Go.Proofs
attribute [local simp] I.vc
def Z (s : List Dom) (rf : List Nat) (R : List (List V)) : Heap := [.mem false [1, 2] [[.own 1 4 0 s.length s.length, .own 2 1 0 R.length R.length]], .mem false [] (s.map Dom.row), .mem false rf R]
section
variable {s : List Dom} {rf : List Nat} {R : List (List V)} {Es E : Heap} {n : Nat}
@[simp] theorem Z_s2 (o : O) : ((Z s rf R ++ E).set 2 o)[2]? = some o := rfl
@[simp] theorem Z_0 : (Z s rf R ++ E)[0]? = some (.mem false [1, 2] [[.own 1 4 0 s.length s.length, .own 2 1 0 R.length R.length]]) := rfl
@[simp] theorem Z_1 : (Z s rf R ++ E)[1]? = some (.mem false [] (s.map Dom.row)) := rfl
@[simp] theorem Z_2 : (Z s rf R ++ E)[2]? = some (.mem false rf R) := rfl
@[simp] theorem Z_0' (h) : (Z s rf R ++ E)[0]'h = .mem false [1, 2] [[.own 1 4 0 s.length s.length, .own 2 1 0 R.length R.length]] := rfl
@[simp] theorem Z_1' (h) : (Z s rf R ++ E)[1]'h = .mem false [] (s.map Dom.row) := rfl
@[simp] theorem Z_2' (h) : (Z s rf R ++ E)[2]'h = .mem false rf R := rfl
@[simp] theorem Z_len : (Z s rf R).length = 3 := rfl
end
end Go.Abs.G

namespace Go.Abs
end Go.Abs
namespace Go.Abs.G
open Go.Proofs
attribute [local simp] I.vc
def domCe (d : Dom) : List Ce := d.row.map .v
def mT (ms : List (List Dom)) : List (List Ce) := ms.map fun L => [.n 4 (L.map domCe)]
end Go.Abs.G

namespace Go.Abs.G
open Go.Proofs
attribute [local simp] I.vc
end Go.Abs.G

namespace Go.Abs.G
open Go.Proofs
attribute [local simp] I.vc
end Go.Abs.G

namespace Go.Abs.G
open Go.Proofs
attribute [local simp] I.vc
def St1 (s : List Dom) (T : List (List Ce)) : O := .tree [] [[.n 4 (s.map domCe), .n 1 T]]
end Go.Abs.G

namespace Go.Abs.G
open Go.Proofs
attribute [local simp] I.vc
end Go.Abs.G

namespace Go.Abs.G
open Go.Proofs
attribute [local simp] I.vc
def flR (D : List (List V)) : Prop := (∀ f, D.map (V.renL f) = D) ∧ Ce.idsR (flatC D) = []
def RS (D M : List (List V)) : Heap := [.mem false [1, 2] [[.own 1 1 0 D.length D.length, .own 2 1 0 M.length M.length]], .mem false [] D, .mem false [] M]
def R1 (D M : List (List V)) : O := .tree [] [[.n 1 (flatC D), .n 1 (flatC M)]]
section
variable {D M D' M' : List (List V)} {E : Heap}
@[simp] theorem zqa : (RS D M).length = 3 := rfl
@[simp] theorem RS_0 : (RS D M)[0]? = some (.mem false [1, 2] [[.own 1 1 0 D.length D.length, .own 2 1 0 M.length M.length]]) := rfl
@[simp] theorem RS_1 : (RS D M)[1]? = some (.mem false [] D) := rfl
@[simp] theorem RS_2 : (RS D M)[2]? = some (.mem false [] M) := rfl
@[simp] theorem RSE_0 : (RS D M ++ E)[0]? = some (.mem false [1, 2] [[.own 1 1 0 D.length D.length, .own 2 1 0 M.length M.length]]) := rfl
@[simp] theorem RSE_1 : (RS D M ++ E)[1]? = some (.mem false [] D) := rfl
@[simp] theorem RSE_2 : (RS D M ++ E)[2]? = some (.mem false [] M) := rfl
@[simp] theorem zp4 (h) : (RS D M ++ E)[0]'h = .mem false [1, 2] [[.own 1 1 0 D.length D.length, .own 2 1 0 M.length M.length]] := rfl
@[simp] theorem zp5 (h) : (RS D M ++ E)[1]'h = .mem false [] D := rfl
@[simp] theorem zp6 (h) : (RS D M ++ E)[2]'h = .mem false [] M := rfl
@[simp] theorem RS_0' (h) : (RS D M)[0]'h = .mem false [1, 2] [[.own 1 1 0 D.length D.length, .own 2 1 0 M.length M.length]] := rfl
@[simp] theorem RS_1' (h) : (RS D M)[1]'h = .mem false [] D := rfl
@[simp] theorem RS_2' (h) : (RS D M)[2]'h = .mem false [] M := rfl
@[simp] theorem RSE_3 (a : O) : (RS D M ++ (a :: E))[3]? = some a := rfl
@[simp] theorem zp7 (a : O) (h) : (RS D M ++ (a :: E))[3]'h = a := rfl
@[simp] theorem RSE_4 (a b : O) : (RS D M ++ (a :: b :: E))[4]? = some b := rfl
@[simp] theorem zp8 (a b : O) (h) : (RS D M ++ (a :: b :: E))[4]'h = b := rfl
@[simp] theorem RSE_5 (a b c : O) : (RS D M ++ (a :: b :: c :: E))[5]? = some c := rfl
@[simp] theorem zp9 (a b c : O) (h) : (RS D M ++ (a :: b :: c :: E))[5]'h = c := rfl
@[simp] theorem zoz (a o : O) : (RS D M ++ (a :: E)).set 3 o = RS D M ++ (o :: E) := rfl
@[simp] theorem zoA (a b o : O) : (RS D M ++ (a :: b :: E)).set 4 o = RS D M ++ (a :: o :: E) := rfl
@[simp] theorem zoB (a b c o : O) : (RS D M ++ (a :: b :: c :: E)).set 5 o = RS D M ++ (a :: b :: o :: E) := rfl
@[simp] theorem zqb (n : Nat) (h : 3 ≤ n) : (RS D M).map (limO n) = RS D M := by
  have h1 : 1 < n := by omega
  have h2 : 2 < n := by omega
  simp [RS, limO, O.refs, h1, h2]
@[simp] theorem zoC : List.take 3 (RS D M) = RS D M := rfl
@[simp] theorem zpy : clos (RS D M) 8 [0] = [0, 1, 2] := by simp [clos, addAll, O.refs, RS]
@[simp] theorem zoy : clos (RS D M ++ E) 8 [0] = [0, 1, 2] := by simp [clos, addAll, O.refs, RS]
end
def dR (d : List (List Int)) : List (List V) := d.map fun l => [vInts l]
def mR (ms : List (List (List Int))) : List (List V) := ms.map fun d => [vIntss d]
theorem zfw : ∀ (D : List (List V)), (∀ r ∈ D, V.idsL r = []) → Ce.idsR (flatC D) = []
  | [], _ => rfl
  | r :: D, h => by
    have hr : ∀ (r : List V), Ce.idsL (r.map Ce.v) = V.idsL r := fun r => by
      induction r with
      | nil => rfl
      | cons x r ih => simp [Ce.idsL, Ce.ids, V.idsL, ih]
    have := zfw D (fun r' h' => h r' (by simp [h']))
    simp only [flatC] at this
    simp [flatC, Ce.idsR, hr, h r (by simp), this]
theorem fl_dR (d : List (List Int)) : flR (dR d) := ⟨fun f => by simp [dR, V.renL, V.ren, vInts, Function.comp_def], zfw _ fun r hr => by
  simp only [dR, List.mem_map] at hr
  obtain ⟨l, _, rfl⟩ := hr
  rfl⟩
theorem fl_mR (ms : List (List (List Int))) : flR (mR ms) := ⟨fun f => by simp [mR, V.renL, V.ren, vIntss, Function.comp_def], zfw _ fun r hr => by
  simp only [mR, List.mem_map] at hr
  obtain ⟨l, _, rfl⟩ := hr
  rfl⟩
@[simp] theorem zqv (d : List (List Int)) : (dR d).length = d.length := by simp [dR]
@[simp] theorem zqw (ms : List (List (List Int))) : (mR ms).length = ms.length := by simp [mR]
end Go.Abs.G

namespace Go.Abs.G
open Go.Proofs
def zdE.ann : List (Nat × RA) := [(0, { gs := [], keep := some [0] }), (1, { gs := [], keep := some [0, 3] }), (2, { gs := [], keep := some [0, 3, 4] }), (3, { gs := [], keep := some [0, 3, 4, 8] }), (4, { gs := [], keep := some [0, 3, 4] }), (5, { gs := [(6, [.frz 16, .nilv 16 1])], keep := some [0, 3, 4], aps := [(6, [1000004])] }), (6, { gs := [(0, [.frz 3, .nilv 3 1])], keep := some [2] })]
def zdE.b0 : C := .seq (.seq (.reg 0 [.o 0 (.lt (some 5) (.mov (.tmp 4))),
    .o 1 (.lt (some 6) (.mov (.tmp 0))),
    .o 2 (.lt (some 7) (.lenSl (.tmp 6))),
    .o 3 (.lt (some 8) (.bin .lss (.tmp 5) (.tmp 7))),
    .g (.keep [0, 3, 4, 8])]) (.cond (.tmp 8) (.skip) (.exit 0))) (.seq (.block 1 (.reg 3 [.o 0 (.lt (some 11) (.mov (.tmp 3))),
    .o 1 (.lt (some 12) (.mov (.tmp 0))),
    .o 2 (.lt (some 13) (.mov (.tmp 4))),
    .o 3 (.lt (some 14) (.ixS 1 (.tmp 12) (.tmp 13))),
    .o 4 (.lt (some 15) (.ld false 1 (.tmp 14))),
    .o 5 (.app [] (some 16) 0 1 8 (.const (.slice none 0 0)) (.tmp 15)),
    .g (.frz 16),
    .g (.nilv 16 1),
    .o 6 (.bsv (some 17) 1 1 [.a (.slice none 0 0)] [(0, (.tmp 16))]),
    .o 7 (.app [] (some 18) 2 1 24 (.tmp 11) (.tmp 17)),
    .o 8 (.lt (some 3) (.mov (.tmp 18))),
    .g (.keep [0, 3, 4])])) (.reg 0 [.o 0 (.lt (some 9) (.mov (.tmp 4))),
    .o 1 (.lt (some 10) (.bin .add (.tmp 9) (.const (.int .i64 1)))),
    .o 2 (.lt (some 4) (.mov (.tmp 10))),
    .g (.keep [0, 3, 4])]))
def zdE.rs : List Rs := [.sl 2]
end Go.Abs.G

namespace Go.Abs
def listsB (k : Int) : Bool := decide (k = 3) || decide (k = 5) || decide (k = 6) || decide (k = 8) || decide (k = 9)
def manyB (n : Nat) : Bool := decide (n < 1) || decide (64 < n)
def foreignB (c : Con) : Bool :=
  if (decide (c.kind ≠ 9) && decide (c.v ≠ 0)) || (decide (c.kind ≠ 8) && decide (0 < c.rows.length)) then true
  else (decide (c.kind ≠ 1) && decide (c.kind ≠ 9) && decide (c.op ≠ 0)) || (!(decide (c.kind = 1) || decide (c.kind = 7)) && decide (0 < c.terms.length)) ||
    (!(decide (c.kind = 1) || decide (c.kind = 7)) && decide (c.kind ≠ 2) && decide (c.kind ≠ 9) && decide (c.k ≠ 0)) ||
    (decide (c.kind ≠ 2) && decide (c.kind ≠ 4) && decide (c.kind ≠ 7) && decide (c.x ≠ 0)) ||
    ((decide (c.kind = 1) || decide (c.kind = 7) || (listsB c.kind && decide (c.kind ≠ 5) && decide (c.kind ≠ 6))) && decide (c.y ≠ 0)) ||
    (!listsB c.kind && decide (0 < c.xs.length)) || (decide (c.kind ≠ 4) && decide (0 < c.table.length))
def rowsR (c : Con) : Bool := !(decide (8 < c.xs.length) || manyB c.rows.length) && c.rows.all fun r => decide (r.length = c.xs.length)
def termsR (l : List Term) (n : Int) : Int := if badVarB n l then 44 else if badCoefB l then 45 else 0
def placeR (x n : Int) : Bool := decide (0 ≤ x) && decide (x < n)
def placesR (c : Con) (n : Int) : Bool := placeR c.x n && placeR c.y n && c.xs.all fun x => placeR x n
def conR (c : Con) (n : Int) : Int :=
  if decide (c.kind < 1) || decide (9 < c.kind) || ((decide (c.kind = 1) || decide (c.kind = 9)) && (decide (c.op < 1) || decide (3 < c.op))) then 43
  else if foreignB c then 48
  else if ((decide (c.kind = 1) || decide (c.kind = 7)) && manyB c.terms.length) || (listsB c.kind && manyB c.xs.length) || (decide (c.kind = 4) && manyB c.table.length) || (decide (c.kind = 8) && !rowsR c) then 47
  else if !placesR c n || decide (termsR c.terms n = 44) then 44
  else if termsR c.terms n ≠ 0 then termsR c.terms n
  else if !withinB c.k 1000000000 || !withinB c.v 1000000000 then 46
  else if c.rows.any greatB then 46
  else if greatB c.table then 46
  else 0
theorem zfI (n x : Int) : noB n x = !placeR x n := by
  unfold noB placeR
  rw [Bool.eq_iff_iff]; simp
  try omega
theorem zju (n : Int) (l : List Int) : (l.any (noB n)) = !(l.all fun x => placeR x n) := by
  induction l with
  | nil => rfl
  | cons a l ih => simp [ih, zfI]
theorem zkO (c : Con) : (decide (8 < c.xs.length) || !countsB true c.rows.length || c.rows.any fun r => decide (r.length ≠ c.xs.length)) = !rowsR c := by
  unfold rowsR manyB countsB
  have : (c.rows.any fun r => decide (r.length ≠ c.xs.length)) = !(c.rows.all fun r => decide (r.length = c.xs.length)) := by
    rw [Bool.eq_iff_iff]; simp
  rw [this]
  generalize (c.rows.all fun r => decide (r.length = c.xs.length)) = b
  rw [Bool.eq_iff_iff]
  cases b <;> simp <;> omega
theorem zjH (c : Con) (n : Int) (hn : 0 < n) : conR c n = conB c n := by
  unfold conB conR needs
  by_cases hk : c.kind < 1 ∨ 9 < c.kind
  · have : (decide (c.kind < 1) || decide (9 < c.kind) || ((decide (c.kind = 1) || decide (c.kind = 9)) && (decide (c.op < 1) || decide (3 < c.op)))) = true := by
      rcases hk with h | h <;> simp [h]
    rw [if_pos this]
    have h1 : c.kind ≠ 1 ∧ c.kind ≠ 2 ∧ c.kind ≠ 3 ∧ c.kind ≠ 4 ∧ c.kind ≠ 5 ∧ c.kind ≠ 6 ∧ c.kind ≠ 7 ∧ c.kind ≠ 8 ∧ c.kind ≠ 9 := by omega
    simp [h1]
  · have hks : c.kind = 1 ∨ c.kind = 2 ∨ c.kind = 3 ∨ c.kind = 4 ∨ c.kind = 5 ∨ c.kind = 6 ∨ c.kind = 7 ∨ c.kind = 8 ∨ c.kind = 9 := by omega
    have hT : (termsR c.terms n = 44) ↔ badVarB n c.terms = true := by
      unfold termsR; cases badVarB n c.terms <;> cases badCoefB c.terms <;> simp
    have hX := zfI n c.x
    have hY := zfI n c.y
    have hXs := zju n c.xs
    have hW := zkO c
    have p0 : placeR 0 n = true := by simp [placeR]; omega
    unfold conN placesR
    rw [hX, hY, hXs]
    simp only [wideB, hW]
    simp only [hT]
    unfold termsR fieldB foreignB listsB manyB countsB
    generalize badVarB n c.terms = A
    generalize badCoefB c.terms = B
    generalize (c.xs.all fun x => placeR x n) = D
    generalize greatB c.table = G
    generalize c.rows.any greatB = R
    generalize rowsR c = W
    generalize withinB c.k 1000000000 = K1
    generalize withinB c.v 1000000000 = K2
    rcases hks with h | h | h | h | h | h | h | h | h
    · simp [h]
      grind
    all_goals (simp [h]; try grind)
end Go.Abs
