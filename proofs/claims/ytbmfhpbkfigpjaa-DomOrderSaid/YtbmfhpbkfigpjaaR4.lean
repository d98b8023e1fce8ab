import Derived.Test.YtbmfhpbkfigpjaaR3
import Derived.Test.YtbmfhpbkfigpjaaProg
import Derived.KernelRfl
import GoSem.ClaimChange
import GoSem.ClaimJoined
import Derived.Below
set_option linter.all false
namespace Go.Abs.G
open Go.Proofs
set_option linter.unusedVariables false
def hallmarklaw11_DomOrder.id : FuncId := 3
@[simp] theorem hallmarklaw11_DomOrder.okf : okFunc Try.prog hallmarklaw11_DomOrder.id = true := by kernel_rfl
def hallmarklaw11_DomBack.id : FuncId := 4
@[simp] theorem hallmarklaw11_DomBack.okf : okFunc Try.prog hallmarklaw11_DomBack.id = true := by kernel_rfl
def hallmarklaw11_known.id : FuncId := 5
@[simp] theorem hallmarklaw11_known.okf : okFunc Try.prog hallmarklaw11_known.id = true := by kernel_rfl
def hallmarklaw11_small.id : FuncId := 6
@[simp] theorem hallmarklaw11_small.okf : okFunc Try.prog hallmarklaw11_small.id = true := by kernel_rfl
def dom_New.id : FuncId := 7
@[simp] theorem dom_New.okf : okFunc Try.prog dom_New.id = true := by kernel_rfl
def hallmarklaw11_copied.id : FuncId := 8
@[simp] theorem hallmarklaw11_copied.okf : okFunc Try.prog hallmarklaw11_copied.id = true := by kernel_rfl
def hallmarklaw11_cuts.id : FuncId := 9
@[simp] theorem hallmarklaw11_cuts.okf : okFunc Try.prog hallmarklaw11_cuts.id = true := by kernel_rfl
def dom_Same.id : FuncId := 10
@[simp] theorem dom_Same.okf : okFunc Try.prog dom_Same.id = true := by kernel_rfl
def dom_Store_Vars.id : FuncId := 11
@[simp] theorem dom_Store_Vars.okf : okFunc Try.prog dom_Store_Vars.id = true := by kernel_rfl
def dom_Store_Has.id : FuncId := 12
@[simp] theorem dom_Store_Has.okf : okFunc Try.prog dom_Store_Has.id = true := by kernel_rfl
def hallmarklaw11_does.id : FuncId := 13
@[simp] theorem hallmarklaw11_does.okf : okFunc Try.prog hallmarklaw11_does.id = true := by kernel_rfl
def dom_Store_Copy.id : FuncId := 14
@[simp] theorem dom_Store_Copy.okf : okFunc Try.prog dom_Store_Copy.id = true := by kernel_rfl
def dom_Store_Mark.id : FuncId := 15
@[simp] theorem dom_Store_Mark.okf : okFunc Try.prog dom_Store_Mark.id = true := by kernel_rfl
def dom_Store_Back.id : FuncId := 16
@[simp] theorem dom_Store_Back.okf : okFunc Try.prog dom_Store_Back.id = true := by kernel_rfl
def dom_Store_Size.id : FuncId := 17
@[simp] theorem dom_Store_Size.okf : okFunc Try.prog dom_Store_Size.id = true := by kernel_rfl
def dom_Store_Cut.id : FuncId := 18
@[simp] theorem dom_Store_Cut.okf : okFunc Try.prog dom_Store_Cut.id = true := by kernel_rfl
def hallmarklaw11_sameInts.id : FuncId := 19
@[simp] theorem hallmarklaw11_sameInts.okf : okFunc Try.prog hallmarklaw11_sameInts.id = true := by kernel_rfl
def dom_Store_Values.id : FuncId := 20
@[simp] theorem dom_Store_Values.okf : okFunc Try.prog dom_Store_Values.id = true := by kernel_rfl
def dom_Store_Hi.id : FuncId := 21
@[simp] theorem dom_Store_Hi.okf : okFunc Try.prog dom_Store_Hi.id = true := by kernel_rfl
def dom_Store_Lo.id : FuncId := 22
@[simp] theorem dom_Store_Lo.okf : okFunc Try.prog dom_Store_Lo.id = true := by kernel_rfl
def dom_Store_Open.id : FuncId := 23
@[simp] theorem dom_Store_Open.okf : okFunc Try.prog dom_Store_Open.id = true := by kernel_rfl
def hallmarklaw11_light.id : FuncId := 24
@[simp] theorem hallmarklaw11_light.okf : okFunc Try.prog hallmarklaw11_light.id = true := by kernel_rfl
def model_Check.id : FuncId := 25
@[simp] theorem model_Check.okf : okFunc Try.prog model_Check.id = true := by kernel_rfl
def slices_Equal_Lint_int.id : FuncId := 26
@[simp] theorem slices_Equal_Lint_int.okf : okFunc Try.prog slices_Equal_Lint_int.id = true := by kernel_rfl
def dom_Store_is.id : FuncId := 27
@[simp] theorem dom_Store_is.okf : okFunc Try.prog dom_Store_is.id = true := by kernel_rfl
def dom_set_has.id : FuncId := 28
@[simp] theorem dom_set_has.okf : okFunc Try.prog dom_set_has.id = true := by kernel_rfl
def slices_Clone_Ldom_domain_dom_domain.id : FuncId := 29
@[simp] theorem slices_Clone_Ldom_domain_dom_domain.okf : okFunc Try.prog slices_Clone_Ldom_domain_dom_domain.id = true := by kernel_rfl
def dom_set_size.id : FuncId := 30
@[simp] theorem dom_set_size.okf : okFunc Try.prog dom_set_size.id = true := by kernel_rfl
def dom_goes.id : FuncId := 31
@[simp] theorem dom_goes.okf : okFunc Try.prog dom_goes.id = true := by kernel_rfl
def dom_set_drop.id : FuncId := 32
@[simp] theorem dom_set_drop.okf : okFunc Try.prog dom_set_drop.id = true := by kernel_rfl
def model_variable.id : FuncId := 33
@[simp] theorem model_variable.okf : okFunc Try.prog model_variable.id = true := by kernel_rfl
def model_con.id : FuncId := 34
@[simp] theorem model_con.okf : okFunc Try.prog model_con.id = true := by kernel_rfl
def model_goal.id : FuncId := 35
@[simp] theorem model_goal.okf : okFunc Try.prog model_goal.id = true := by kernel_rfl
def math_bits_OnesCount32.id : FuncId := 36
@[simp] theorem math_bits_OnesCount32.okf : okFunc Try.prog math_bits_OnesCount32.id = true := by kernel_rfl
def model_isName.id : FuncId := 37
@[simp] theorem model_isName.okf : okFunc Try.prog model_isName.id = true := by kernel_rfl
def slices_ContainsFunc_Lapi_Var_api_Var.id : FuncId := 38
@[simp] theorem slices_ContainsFunc_Lapi_Var_api_Var.okf : okFunc Try.prog slices_ContainsFunc_Lapi_Var_api_Var.id = true := by kernel_rfl
def model_variable_1.id : FuncId := 39
@[simp] theorem model_variable_1.okf : okFunc Try.prog model_variable_1.id = true := by kernel_rfl
def model_within.id : FuncId := 40
@[simp] theorem model_within.okf : okFunc Try.prog model_within.id = true := by kernel_rfl
def model_kinds.id : FuncId := 41
@[simp] theorem model_kinds.okf : okFunc Try.prog model_kinds.id = true := by kernel_rfl
def model_terms.id : FuncId := 42
@[simp] theorem model_terms.okf : okFunc Try.prog model_terms.id = true := by kernel_rfl
def model_con_1.id : FuncId := 43
@[simp] theorem model_con_1.okf : okFunc Try.prog model_con_1.id = true := by kernel_rfl
def model_field.id : FuncId := 44
@[simp] theorem model_field.okf : okFunc Try.prog model_field.id = true := by kernel_rfl
def model_counts.id : FuncId := 45
@[simp] theorem model_counts.okf : okFunc Try.prog model_counts.id = true := by kernel_rfl
def model_wide.id : FuncId := 46
@[simp] theorem model_wide.okf : okFunc Try.prog model_wide.id = true := by kernel_rfl
def slices_ContainsFunc_Lint_int.id : FuncId := 47
@[simp] theorem slices_ContainsFunc_Lint_int.okf : okFunc Try.prog slices_ContainsFunc_Lint_int.id = true := by kernel_rfl
def model_great.id : FuncId := 48
@[simp] theorem model_great.okf : okFunc Try.prog model_great.id = true := by kernel_rfl
def slices_ContainsFunc_LLint_Lint.id : FuncId := 49
@[simp] theorem slices_ContainsFunc_LLint_Lint.okf : okFunc Try.prog slices_ContainsFunc_LLint_Lint.id = true := by kernel_rfl
def slices_IndexFunc_Lapi_Var_api_Var.id : FuncId := 50
@[simp] theorem slices_IndexFunc_Lapi_Var_api_Var.okf : okFunc Try.prog slices_IndexFunc_Lapi_Var_api_Var.id = true := by kernel_rfl
def model_lin.id : FuncId := 51
@[simp] theorem model_lin.okf : okFunc Try.prog model_lin.id = true := by kernel_rfl
def model_kinds_1.id : FuncId := 52
@[simp] theorem model_kinds_1.okf : okFunc Try.prog model_kinds_1.id = true := by kernel_rfl
def model_allDiff.id : FuncId := 53
@[simp] theorem model_allDiff.okf : okFunc Try.prog model_allDiff.id = true := by kernel_rfl
def model_element.id : FuncId := 54
@[simp] theorem model_element.okf : okFunc Try.prog model_element.id = true := by kernel_rfl
def model_kinds_2.id : FuncId := 55
@[simp] theorem model_kinds_2.okf : okFunc Try.prog model_kinds_2.id = true := by kernel_rfl
def slices_Max_Lint_int.id : FuncId := 56
@[simp] theorem slices_Max_Lint_int.okf : okFunc Try.prog slices_Max_Lint_int.id = true := by kernel_rfl
def model_each.id : FuncId := 57
@[simp] theorem model_each.okf : okFunc Try.prog model_each.id = true := by kernel_rfl
def model_kinds_3.id : FuncId := 58
@[simp] theorem model_kinds_3.okf : okFunc Try.prog model_kinds_3.id = true := by kernel_rfl
def slices_Min_Lint_int.id : FuncId := 59
@[simp] theorem slices_Min_Lint_int.okf : okFunc Try.prog slices_Min_Lint_int.id = true := by kernel_rfl
def model_reif.id : FuncId := 60
@[simp] theorem model_reif.okf : okFunc Try.prog model_reif.id = true := by kernel_rfl
def model_table.id : FuncId := 61
@[simp] theorem model_table.okf : okFunc Try.prog model_table.id = true := by kernel_rfl
def model_count.id : FuncId := 62
@[simp] theorem model_count.okf : okFunc Try.prog model_count.id = true := by kernel_rfl
def model_wide_1.id : FuncId := 63
@[simp] theorem model_wide_1.okf : okFunc Try.prog model_wide_1.id = true := by kernel_rfl
def slices_IndexFunc_Lint_int.id : FuncId := 64
@[simp] theorem slices_IndexFunc_Lint_int.okf : okFunc Try.prog slices_IndexFunc_Lint_int.id = true := by kernel_rfl
def model_great_1.id : FuncId := 65
@[simp] theorem model_great_1.okf : okFunc Try.prog model_great_1.id = true := by kernel_rfl
def slices_IndexFunc_LLint_Lint.id : FuncId := 66
@[simp] theorem slices_IndexFunc_LLint_Lint.okf : okFunc Try.prog slices_IndexFunc_LLint_Lint.id = true := by kernel_rfl
def model_is.id : FuncId := 67
@[simp] theorem model_is.okf : okFunc Try.prog model_is.id = true := by kernel_rfl
def model_sum.id : FuncId := 68
@[simp] theorem model_sum.okf : okFunc Try.prog model_sum.id = true := by kernel_rfl
def slices_Compact_Lint_int.id : FuncId := 70
@[simp] theorem slices_Compact_Lint_int.okf : okFunc Try.prog slices_Compact_Lint_int.id = true := by kernel_rfl
def model_table_1.id : FuncId := 71
@[simp] theorem model_table_1.okf : okFunc Try.prog model_table_1.id = true := by kernel_rfl
-- hallmark/hallmarklaw11.DomOrder
def hallmarklaw11_DomOrder.ann : List (Nat × RA) := [(0, { gs := [], keep := some [1, 2, 3] }), (1, { gs := [], keep := some [1, 2, 3, 18] }), (2, { gs := [], keep := some [6] }), (3, { gs := [], keep := some [1, 2, 3, 26] }), (4, { gs := [], keep := some [6] }), (5, { gs := [], keep := some [1, 2, 3, 7, 8], ord := [0, 3, 1, 2, 4, 5, 6, 7], aps := [(2, [1000002]), (5, [1000002])] }), (6, { gs := [], keep := some [1, 2, 3, 7, 8, 38] }), (7, { gs := [], keep := some [6] }), (8, { gs := [], keep := some [1, 2, 3, 7, 8, 9] }), (9, { gs := [], keep := some [1, 2, 3, 7, 8, 9, 10] }), (10, { gs := [], keep := some [1, 2, 3, 7, 8, 9, 10, 41] }), (11, { gs := [], keep := some [1, 3, 7, 8, 9, 10] }), (12, { gs := [], keep := some [1, 3, 7, 8, 9, 10, 11] }), (13, { gs := [], keep := some [1, 3, 7, 8, 9, 10, 11, 55] }), (14, { gs := [], keep := some [1, 3, 7, 8, 9, 10, 11] }), (15, { gs := [], keep := some [1, 3, 7, 8, 9, 10, 11], aps := [(14, [1000004])] }), (16, { gs := [(0, [.frz 9, .nilv 9 3])], keep := some [1, 3, 7, 8, 83], aps := [(2, [1000000]), (7, [1000000])] }), (17, { gs := [], keep := some [6] }), (18, { gs := [], keep := some [1, 3, 7, 99], aps := [(2, [1000000]), (7, [1000000]), (13, [1000000])] }), (19, { gs := [], keep := some [6] }), (20, { gs := [], keep := some [1, 3, 7, 12] }), (21, { gs := [], keep := some [1, 3, 7, 12, 103], aps := [(2, [1000000])] }), (22, { gs := [], keep := some [1, 3, 7, 12] }), (23, { gs := [], keep := some [1, 3, 7, 12, 13] }), (24, { gs := [], keep := some [1, 3, 7, 12, 13, 119] }), (25, { gs := [], keep := some [1, 3, 7, 12, 13] }), (26, { gs := [], keep := some [1, 3, 7, 12, 13, 14] }), (27, { gs := [], keep := some [1, 3, 7, 12, 13, 14, 15] }), (28, { gs := [], keep := some [1, 3, 7, 12, 13, 14, 15, 125] }), (29, { gs := [], keep := some [1, 3, 7, 12, 13, 14, 15] }), (30, { gs := [], keep := some [1, 3, 7, 12, 13, 14, 15, 16] }), (31, { gs := [], keep := some [1, 3, 7, 12, 13, 14, 15] }), (32, { gs := [], keep := some [1, 3, 7, 12, 13, 177], aps := [(3, [1000000])] }), (33, { gs := [], keep := some [6] }), (34, { gs := [], keep := some [6] })]
def hallmarklaw11_DomOrder.b3 : C := .seq (.seq (.reg 0 [.o 0 (.lt (some 122) (.mov (.tmp 15))),
    .o 1 (.lt (some 123) (.mov (.tmp 1))),
    .o 2 (.lt (some 124) (.lenSl (.tmp 123))),
    .o 3 (.lt (some 125) (.bin .lss (.tmp 122) (.tmp 124))),
    .g (.keep [1, 3, 7, 12, 13, 14, 15, 125])]) (.cond (.tmp 125) (.skip) (.exit 6))) (.seq (.block 7 (.seq (.reg 1 [.o 0 (.lt (some 128) (.mov (.tmp 1))),
    .o 1 (.lt (some 129) (.mov (.tmp 15))),
    .o 2 (.lt (some 130) (.ixS 3 (.tmp 128) (.tmp 129))),
    .o 3 (.lt (some 131) (.ld true 3 (.tmp 130))),
    .o 4 (.alloc (some 16) 0 3 [.a (.int .i64 0), .a (.int .i64 0), .a (.int .i64 0)]),
    .o 5 (.store [] 3 (.tmp 16) (.tmp 131)),
    .g (.keep [1, 3, 7, 12, 13, 14, 15, 16])]) (.reg 0 [.o 0 (.lt (some 132) (.mov (.tmp 14))),
    .o 1 (.lt (some 133) (.mov (.tmp 132))),
    .gd 2 133 false (some 134) (.lt (some 134) (.fad (.tmp 16) 1)),
    .gd 3 133 false (some 135) (.lt (some 135) (.ld false 1 (.tmp 134))),
    .gd 4 133 false (some 136) (.lt (some 136) (.mov (.tmp 12))),
    .gd 5 133 false (some 137) (.lt (some 137) (.bin .eql (.tmp 135) (.tmp 136))),
    .gd 6 133 false (some 138) (.lt (some 138) (.mov (.tmp 137))),
    .gd 7 138 true (some 139) (.lt (some 139) (.fad (.tmp 16) 0)),
    .gd 8 138 true (some 140) (.lt (some 140) (.ld false 1 (.tmp 139))),
    .gd 9 138 true (some 141) (.lt (some 141) (.bin .eql (.tmp 140) (.const (.int .i64 1)))),
    .gd 10 138 true (some 142) (.lt (some 142) (.mov (.tmp 141))),
    .gd 11 142 true (some 143) (.lt (some 143) (.mov (.tmp 13))),
    .gd 12 142 true (some 144) (.lt (some 144) (.fad (.tmp 16) 2)),
    .gd 13 142 true (some 145) (.lt (some 145) (.ld false 1 (.tmp 144))),
    .gd 14 142 true (some 146) (.lt (some 146) (.bin .lss (.tmp 143) (.tmp 145))),
    .gd 15 138 true (some 147) (.lt (some 147) (.pick (.tmp 142) (.tmp 146) (.const (.bool false)))),
    .gd 16 138 true (some 148) (.lt (some 148) (.mov (.tmp 147))),
    .gd 17 148 false (some 149) (.lt (some 149) (.fad (.tmp 16) 0)),
    .gd 18 148 false (some 150) (.lt (some 150) (.ld false 1 (.tmp 149))),
    .gd 19 148 false (some 151) (.lt (some 151) (.bin .eql (.tmp 150) (.const (.int .i64 2)))),
    .gd 20 148 false (some 152) (.lt (some 152) (.mov (.tmp 151))),
    .gd 21 152 true (some 153) (.lt (some 153) (.mov (.tmp 13))),
    .gd 22 152 true (some 154) (.lt (some 154) (.fad (.tmp 16) 2)),
    .gd 23 152 true (some 155) (.lt (some 155) (.ld false 1 (.tmp 154))),
    .gd 24 152 true (some 156) (.lt (some 156) (.bin .gtr (.tmp 153) (.tmp 155))),
    .gd 25 148 false (some 157) (.lt (some 157) (.pick (.tmp 152) (.tmp 156) (.const (.bool false)))),
    .gd 26 138 true (some 158) (.lt (some 158) (.pick (.tmp 148) (.const (.bool true)) (.tmp 157))),
    .gd 27 138 true (some 159) (.lt (some 159) (.mov (.tmp 158))),
    .gd 28 159 false (some 160) (.lt (some 160) (.fad (.tmp 16) 0)),
    .gd 29 159 false (some 161) (.lt (some 161) (.ld false 1 (.tmp 160))),
    .gd 30 159 false (some 162) (.lt (some 162) (.bin .eql (.tmp 161) (.const (.int .i64 3)))),
    .gd 31 159 false (some 163) (.lt (some 163) (.mov (.tmp 162))),
    .gd 32 163 true (some 164) (.lt (some 164) (.mov (.tmp 13))),
    .gd 33 163 true (some 165) (.lt (some 165) (.fad (.tmp 16) 2)),
    .gd 34 163 true (some 166) (.lt (some 166) (.ld false 1 (.tmp 165))),
    .gd 35 163 true (some 167) (.lt (some 167) (.bin .eql (.tmp 164) (.tmp 166))),
    .gd 36 159 false (some 168) (.lt (some 168) (.pick (.tmp 163) (.tmp 167) (.const (.bool false)))),
    .gd 37 138 true (some 169) (.lt (some 169) (.pick (.tmp 159) (.const (.bool true)) (.tmp 168))),
    .gd 38 133 false (some 170) (.lt (some 170) (.pick (.tmp 138) (.tmp 169) (.const (.bool false)))),
    .o 39 (.lt (some 171) (.pick (.tmp 133) (.const (.bool true)) (.tmp 170))),
    .o 40 (.lt (some 14) (.mov (.tmp 171))),
    .g (.keep [1, 3, 7, 12, 13, 14, 15])]))) (.reg 0 [.o 0 (.lt (some 126) (.mov (.tmp 15))),
    .o 1 (.lt (some 127) (.bin .add (.tmp 126) (.const (.int .i64 1)))),
    .o 2 (.lt (some 15) (.mov (.tmp 127))),
    .g (.keep [1, 3, 7, 12, 13, 14, 15])]))
def hallmarklaw11_DomOrder.b2 : C := .seq (.seq (.reg 0 [.o 0 (.lt (some 112) (.mov (.tmp 13))),
    .o 1 (.lt (some 113) (.fad (.tmp 3) 0)),
    .o 2 (.lt (some 114) (.ld false 1 (.tmp 113))),
    .o 3 (.lt (some 115) (.mov (.tmp 12))),
    .o 4 (.lt (some 116) (.ixS 3 (.tmp 114) (.tmp 115))),
    .o 5 (.lt (some 117) (.fad (.tmp 116) 2)),
    .o 6 (.lt (some 118) (.ld false 1 (.tmp 117))),
    .o 7 (.lt (some 119) (.bin .leq (.tmp 112) (.tmp 118))),
    .g (.keep [1, 3, 7, 12, 13, 119])]) (.cond (.tmp 119) (.skip) (.exit 4))) (.seq (.block 5 (.seq (.reg 0 [.o 0 (.lt (some 14) (.mov (.const (.bool false)))),
    .g (.keep [1, 3, 7, 12, 13, 14])]) (.seq (.seq (.reg 0 [.o 0 (.lt (some 15) (.mov (.const (.int .i64 0)))),
    .g (.keep [1, 3, 7, 12, 13, 14, 15])]) (.block 6 (.loop hallmarklaw11_DomOrder.b3))) (.seq (.reg 0 [.o 0 (.lt (some 172) (.mov (.tmp 7))),
    .o 1 (.lt (some 173) (.mov (.tmp 12))),
    .o 2 (.lt (some 174) (.mov (.tmp 13))),
    .o 3 (.callm (some 175) (.func dom_Store_Has.id) [(.tmp 172), (.tmp 173), (.tmp 174)]),
    .o 4 (.lt (some 176) (.mov (.tmp 14))),
    .o 5 (.lt (some 177) (.eqB false (.tmp 175) (.tmp 176))),
    .g (.keep [1, 3, 7, 12, 13, 177])]) (.cond (.tmp 177) (.seq (.reg 0 [.o 0 (.lt (some 6) (.mov (.const (.bool false)))),
    .g (.keep [6])]) (.ret)) (.skip)))))) (.reg 0 [.o 0 (.lt (some 120) (.mov (.tmp 13))),
    .o 1 (.lt (some 121) (.bin .add (.tmp 120) (.const (.int .i64 1)))),
    .o 2 (.lt (some 13) (.mov (.tmp 121))),
    .g (.keep [1, 3, 7, 12, 13])]))
def hallmarklaw11_DomOrder.b1 : C := .seq (.seq (.reg 0 [.o 0 (.lt (some 100) (.mov (.tmp 12))),
    .o 1 (.lt (some 101) (.mov (.tmp 7))),
    .o 2 (.callm (some 102) (.func dom_Store_Vars.id) [(.tmp 101)]),
    .o 3 (.lt (some 103) (.bin .lss (.tmp 100) (.tmp 102))),
    .g (.keep [1, 3, 7, 12, 103])]) (.cond (.tmp 103) (.skip) (.exit 2))) (.seq (.block 3 (.seq (.reg 0 [.o 0 (.lt (some 106) (.fad (.tmp 3) 0)),
    .o 1 (.lt (some 107) (.ld false 1 (.tmp 106))),
    .o 2 (.lt (some 108) (.mov (.tmp 12))),
    .o 3 (.lt (some 109) (.ixS 3 (.tmp 107) (.tmp 108))),
    .o 4 (.lt (some 110) (.fad (.tmp 109) 1)),
    .o 5 (.lt (some 111) (.ld false 1 (.tmp 110))),
    .o 6 (.lt (some 13) (.mov (.tmp 111))),
    .g (.keep [1, 3, 7, 12, 13])]) (.block 4 (.loop hallmarklaw11_DomOrder.b2)))) (.reg 0 [.o 0 (.lt (some 104) (.mov (.tmp 12))),
    .o 1 (.lt (some 105) (.bin .add (.tmp 104) (.const (.int .i64 1)))),
    .o 2 (.lt (some 12) (.mov (.tmp 105))),
    .g (.keep [1, 3, 7, 12])]))
def hallmarklaw11_DomOrder.b0 : C := .seq (.seq (.reg 0 [.o 0 (.lt (some 52) (.mov (.tmp 11))),
    .o 1 (.lt (some 53) (.mov (.tmp 1))),
    .o 2 (.lt (some 54) (.lenSl (.tmp 53))),
    .o 3 (.lt (some 55) (.bin .lss (.tmp 52) (.tmp 54))),
    .g (.keep [1, 3, 7, 8, 9, 10, 11, 55])]) (.cond (.tmp 55) (.skip) (.exit 0))) (.seq (.block 1 (.reg 2 [.o 0 (.lt (some 58) (.mov (.tmp 9))),
    .o 1 (.lt (some 59) (.mov (.tmp 1))),
    .o 2 (.lt (some 60) (.mov (.tmp 1))),
    .o 3 (.lt (some 61) (.lenSl (.tmp 60))),
    .o 4 (.lt (some 62) (.bin .sub (.tmp 61) (.const (.int .i64 1)))),
    .o 5 (.lt (some 63) (.mov (.tmp 11))),
    .o 6 (.lt (some 64) (.mov (.tmp 10))),
    .o 7 (.lt (some 65) (.bin .add (.tmp 63) (.tmp 64))),
    .o 8 (.lt (some 66) (.mov (.tmp 1))),
    .o 9 (.lt (some 67) (.lenSl (.tmp 66))),
    .o 10 (.lt (some 68) (.bin .rem (.tmp 65) (.tmp 67))),
    .o 11 (.lt (some 69) (.bin .sub (.tmp 62) (.tmp 68))),
    .o 12 (.lt (some 70) (.ixS 3 (.tmp 59) (.tmp 69))),
    .o 13 (.lt (some 71) (.ld true 3 (.tmp 70))),
    .o 14 (.bsv (some 72) 3 1 [.a (.int .i64 0), .a (.int .i64 0), .a (.int .i64 0)] [(0, (.tmp 71))]),
    .o 15 (.app [] (some 73) 1 3 24 (.tmp 58) (.tmp 72)),
    .o 16 (.lt (some 9) (.mov (.tmp 73))),
    .g (.keep [1, 3, 7, 8, 9, 10, 11])])) (.reg 0 [.o 0 (.lt (some 56) (.mov (.tmp 11))),
    .o 1 (.lt (some 57) (.bin .add (.tmp 56) (.const (.int .i64 1)))),
    .o 2 (.lt (some 11) (.mov (.tmp 57))),
    .g (.keep [1, 3, 7, 8, 9, 10, 11])]))
def hallmarklaw11_DomOrder.ir : C := .seq (.reg 1 [.o 0 (.box (some 3) 0 4 (.tmp 0)),
    .o 1 (.lt (some 6) (.mov (.const (.bool false)))),
    .g (.keep [1, 2, 3])]) (.seq (.seq (.reg 0 [.o 0 (.call (some 17) hallmarklaw11_known.id []),
    .o 1 (.lt (some 18) (.un .not (.tmp 17))),
    .g (.keep [1, 2, 3, 18])]) (.cond (.tmp 18) (.seq (.reg 0 [.o 0 (.lt (some 6) (.mov (.const (.bool false)))),
    .g (.keep [6])]) (.ret)) (.skip))) (.seq (.seq (.reg 0 [.o 0 (.lt (some 19) (.ld true 4 (.tmp 3))),
    .o 1 (.call (some 20) hallmarklaw11_small.id [(.tmp 19), (.const (.slice none 0 0))]),
    .o 2 (.lt (some 21) (.un .not (.tmp 20))),
    .o 3 (.lt (some 22) (.mov (.tmp 21))),
    .gd 4 22 false (some 23) (.lt (some 23) (.mov (.tmp 1))),
    .gd 5 22 false (some 24) (.lt (some 24) (.lenSl (.tmp 23))),
    .gd 6 22 false (some 25) (.lt (some 25) (.bin .gtr (.tmp 24) (.const (.int .i64 300)))),
    .o 7 (.lt (some 26) (.pick (.tmp 22) (.const (.bool true)) (.tmp 25))),
    .g (.keep [1, 2, 3, 26])]) (.cond (.tmp 26) (.seq (.reg 0 [.o 0 (.lt (some 6) (.mov (.const (.bool true)))),
    .g (.keep [6])]) (.ret)) (.skip))) (.seq (.reg 0 [.o 0 (.lt (some 27) (.ld true 4 (.tmp 3))),
    .o 3 (.lt (some 30) (.ld true 4 (.tmp 3))),
    .o 1 (.call (some 28) hallmarklaw11_copied.id [(.tmp 27)]),
    .o 2 (.callo (some 29) (.func dom_New.id) [(.tmp 28)]),
    .o 4 (.call (some 31) hallmarklaw11_copied.id [(.tmp 30)]),
    .o 5 (.callo (some 32) (.func dom_New.id) [(.tmp 31)]),
    .o 6 (.lt (some 7) (.mov (.tmp 29))),
    .o 7 (.lt (some 8) (.mov (.tmp 32))),
    .g (.keep [1, 2, 3, 7, 8])]) (.seq (.seq (.reg 0 [.o 0 (.lt (some 33) (.mov (.tmp 7))),
    .o 1 (.lt (some 34) (.eqZ 0 false (.tmp 33))),
    .o 2 (.lt (some 35) (.mov (.tmp 34))),
    .gd 3 35 false (some 36) (.lt (some 36) (.mov (.tmp 8))),
    .gd 4 35 false (some 37) (.lt (some 37) (.eqZ 0 false (.tmp 36))),
    .o 5 (.lt (some 38) (.pick (.tmp 35) (.const (.bool true)) (.tmp 37))),
    .g (.keep [1, 2, 3, 7, 8, 38])]) (.cond (.tmp 38) (.seq (.reg 0 [.o 0 (.lt (some 6) (.mov (.const (.bool false)))),
    .g (.keep [6])]) (.ret)) (.skip))) (.seq (.reg 0 [.o 0 (.lt (some 9) (.mov (.const (.slice none 0 0)))),
    .g (.keep [1, 2, 3, 7, 8, 9])]) (.seq (.reg 0 [.o 0 (.lt (some 10) (.mov (.const (.int .i64 0)))),
    .g (.keep [1, 2, 3, 7, 8, 9, 10])]) (.seq (.seq (.reg 0 [.o 0 (.lt (some 39) (.mov (.tmp 1))),
    .o 1 (.lt (some 40) (.lenSl (.tmp 39))),
    .o 2 (.lt (some 41) (.bin .gtr (.tmp 40) (.const (.int .i64 0)))),
    .g (.keep [1, 2, 3, 7, 8, 9, 10, 41])]) (.cond (.tmp 41) (.reg 0 [.o 0 (.lt (some 42) (.mov (.tmp 2))),
    .o 1 (.lt (some 43) (.mov (.tmp 1))),
    .o 2 (.lt (some 44) (.lenSl (.tmp 43))),
    .o 3 (.lt (some 45) (.bin .rem (.tmp 42) (.tmp 44))),
    .o 4 (.lt (some 46) (.mov (.tmp 1))),
    .o 5 (.lt (some 47) (.lenSl (.tmp 46))),
    .o 6 (.lt (some 48) (.bin .add (.tmp 45) (.tmp 47))),
    .o 7 (.lt (some 49) (.mov (.tmp 1))),
    .o 8 (.lt (some 50) (.lenSl (.tmp 49))),
    .o 9 (.lt (some 51) (.bin .rem (.tmp 48) (.tmp 50))),
    .o 10 (.lt (some 10) (.mov (.tmp 51))),
    .g (.keep [1, 3, 7, 8, 9, 10])]) (.skip))) (.seq (.seq (.reg 0 [.o 0 (.lt (some 11) (.mov (.const (.int .i64 0)))),
    .g (.keep [1, 3, 7, 8, 9, 10, 11])]) (.block 0 (.loop hallmarklaw11_DomOrder.b0))) (.seq (.seq (.reg 0 [.g (.frz 9),
    .g (.nilv 9 3),
    .o 0 (.lt (some 74) (.mov (.tmp 7))),
    .o 1 (.lt (some 75) (.mov (.tmp 1))),
    .o 2 (.callm (some 76) (.func hallmarklaw11_cuts.id) [(.tmp 74), (.tmp 75)]),
    .o 3 (.lt (some 77) (.un .not (.tmp 76))),
    .o 4 (.lt (some 78) (.mov (.tmp 77))),
    .gd 5 78 false (some 79) (.lt (some 79) (.mov (.tmp 8))),
    .gd 6 78 false (some 80) (.lt (some 80) (.mov (.tmp 9))),
    .gd 7 78 false (some 81) (.callm (some 81) (.func hallmarklaw11_cuts.id) [(.tmp 79), (.tmp 80)]),
    .gd 8 78 false (some 82) (.lt (some 82) (.un .not (.tmp 81))),
    .o 9 (.lt (some 83) (.pick (.tmp 78) (.const (.bool true)) (.tmp 82))),
    .g (.keep [1, 3, 7, 8, 83])]) (.cond (.tmp 83) (.seq (.reg 0 [.o 0 (.lt (some 6) (.mov (.const (.bool true)))),
    .g (.keep [6])]) (.ret)) (.skip))) (.seq (.seq (.reg 0 [.o 0 (.lt (some 84) (.mov (.tmp 7))),
    .o 1 (.lt (some 85) (.mov (.tmp 8))),
    .o 2 (.callm (some 86) (.func dom_Same.id) [(.tmp 84), (.tmp 85)]),
    .o 3 (.lt (some 87) (.un .not (.tmp 86))),
    .o 4 (.lt (some 88) (.mov (.tmp 87))),
    .gd 5 88 false (some 89) (.lt (some 89) (.mov (.tmp 7))),
    .gd 6 88 false (some 90) (.lt (some 90) (.mov (.tmp 1))),
    .gd 7 88 false (some 91) (.callm (some 91) (.func hallmarklaw11_cuts.id) [(.tmp 89), (.tmp 90)]),
    .gd 8 88 false (some 92) (.lt (some 92) (.un .not (.tmp 91))),
    .o 9 (.lt (some 93) (.pick (.tmp 88) (.const (.bool true)) (.tmp 92))),
    .o 10 (.lt (some 94) (.mov (.tmp 93))),
    .gd 11 94 false (some 95) (.lt (some 95) (.mov (.tmp 7))),
    .gd 12 94 false (some 96) (.lt (some 96) (.mov (.tmp 8))),
    .gd 13 94 false (some 97) (.callm (some 97) (.func dom_Same.id) [(.tmp 95), (.tmp 96)]),
    .gd 14 94 false (some 98) (.lt (some 98) (.un .not (.tmp 97))),
    .o 15 (.lt (some 99) (.pick (.tmp 94) (.const (.bool true)) (.tmp 98))),
    .g (.keep [1, 3, 7, 99])]) (.cond (.tmp 99) (.seq (.reg 0 [.o 0 (.lt (some 6) (.mov (.const (.bool false)))),
    .g (.keep [6])]) (.ret)) (.skip))) (.seq (.seq (.reg 0 [.o 0 (.lt (some 12) (.mov (.const (.int .i64 0)))),
    .g (.keep [1, 3, 7, 12])]) (.block 2 (.loop hallmarklaw11_DomOrder.b1))) (.seq (.reg 0 [.o 0 (.lt (some 6) (.mov (.const (.bool true)))),
    .g (.keep [6])]) (.ret)))))))))))))
def hallmarklaw11_DomOrder.rs : List Rs := [.sl 6]
theorem hallmarklaw11_DomOrder.ok : isFn Try.prog hallmarklaw11_DomOrder.id 178 hallmarklaw11_DomOrder.ann hallmarklaw11_DomOrder.ir hallmarklaw11_DomOrder.rs := ⟨Try.f3, _, Try.func3, rfl, rfl, by kernel_rfl, by kernel_rfl⟩
-- hallmark/hallmarklaw11.DomBack
def hallmarklaw11_DomBack.ann : List (Nat × RA) := [(0, { gs := [], keep := some [1, 2, 3] }), (1, { gs := [], keep := some [1, 2, 3, 13] }), (2, { gs := [], keep := some [6] }), (3, { gs := [], keep := some [1, 2, 3, 23] }), (4, { gs := [], keep := some [6] }), (5, { gs := [], keep := some [1, 2, 7], aps := [(2, [1000002])] }), (6, { gs := [], keep := some [1, 2, 7, 28] }), (7, { gs := [], keep := some [6] }), (8, { gs := [], keep := some [1, 2, 7, 8] }), (9, { gs := [], keep := some [1, 2, 7, 8, 32] }), (10, { gs := [], keep := some [1, 2, 7, 8] }), (11, { gs := [], keep := some [1, 2, 7, 8], aps := [(5, [1000000])] }), (12, { gs := [], keep := some [2, 7, 9], aps := [(1, [1000000])] }), (13, { gs := [], keep := some [2, 7, 9, 10], aps := [(1, [1000000])] }), (14, { gs := [], keep := some [2, 7, 9, 10, 11] }), (15, { gs := [], keep := some [2, 7, 9, 10, 11, 48] }), (16, { gs := [], keep := some [2, 7, 9, 10, 11] }), (17, { gs := [], keep := some [2, 7, 9, 10, 11], aps := [(7, [1000000])] }), (18, { gs := [], keep := some [6], aps := [(5, [1000000]), (10, [1000000]), (15, [1000000])] })]
def hallmarklaw11_DomBack.b1 : C := .seq (.seq (.reg 0 [.o 0 (.lt (some 45) (.mov (.tmp 11))),
    .o 1 (.lt (some 46) (.mov (.tmp 2))),
    .o 2 (.lt (some 47) (.lenSl (.tmp 46))),
    .o 3 (.lt (some 48) (.bin .lss (.tmp 45) (.tmp 47))),
    .g (.keep [2, 7, 9, 10, 11, 48])]) (.cond (.tmp 48) (.skip) (.exit 2))) (.seq (.block 3 (.reg 0 [.o 0 (.lt (some 51) (.mov (.tmp 7))),
    .o 1 (.lt (some 52) (.mov (.tmp 2))),
    .o 2 (.lt (some 53) (.mov (.tmp 11))),
    .o 3 (.lt (some 54) (.ixS 5 (.tmp 52) (.tmp 53))),
    .o 4 (.lt (some 55) (.ld true 5 (.tmp 54))),
    .o 5 (.lt (some 56) (.mov (.tmp 10))),
    .o 6 (.lt (some 57) (.bin .add (.tmp 56) (.const (.int .i64 1)))),
    .o 7 (.callm (some 58) (.func hallmarklaw11_does.id) [(.tmp 51), (.tmp 55), (.tmp 57)]),
    .g (.keep [2, 7, 9, 10, 11])])) (.reg 0 [.o 0 (.lt (some 49) (.mov (.tmp 11))),
    .o 1 (.lt (some 50) (.bin .add (.tmp 49) (.const (.int .i64 1)))),
    .o 2 (.lt (some 11) (.mov (.tmp 50))),
    .g (.keep [2, 7, 9, 10, 11])]))
def hallmarklaw11_DomBack.b0 : C := .seq (.seq (.reg 0 [.o 0 (.lt (some 29) (.mov (.tmp 8))),
    .o 1 (.lt (some 30) (.mov (.tmp 1))),
    .o 2 (.lt (some 31) (.lenSl (.tmp 30))),
    .o 3 (.lt (some 32) (.bin .lss (.tmp 29) (.tmp 31))),
    .g (.keep [1, 2, 7, 8, 32])]) (.cond (.tmp 32) (.skip) (.exit 0))) (.seq (.block 1 (.reg 0 [.o 0 (.lt (some 35) (.mov (.tmp 7))),
    .o 1 (.lt (some 36) (.mov (.tmp 1))),
    .o 2 (.lt (some 37) (.mov (.tmp 8))),
    .o 3 (.lt (some 38) (.ixS 5 (.tmp 36) (.tmp 37))),
    .o 4 (.lt (some 39) (.ld true 5 (.tmp 38))),
    .o 5 (.callm (some 40) (.func hallmarklaw11_does.id) [(.tmp 35), (.tmp 39), (.const (.int .i64 0))]),
    .g (.keep [1, 2, 7, 8])])) (.reg 0 [.o 0 (.lt (some 33) (.mov (.tmp 8))),
    .o 1 (.lt (some 34) (.bin .add (.tmp 33) (.const (.int .i64 1)))),
    .o 2 (.lt (some 8) (.mov (.tmp 34))),
    .g (.keep [1, 2, 7, 8])]))
def hallmarklaw11_DomBack.ir : C := .seq (.reg 1 [.o 0 (.box (some 3) 0 4 (.tmp 0)),
    .o 1 (.lt (some 6) (.mov (.const (.bool false)))),
    .g (.keep [1, 2, 3])]) (.seq (.seq (.reg 0 [.o 0 (.call (some 12) hallmarklaw11_known.id []),
    .o 1 (.lt (some 13) (.un .not (.tmp 12))),
    .g (.keep [1, 2, 3, 13])]) (.cond (.tmp 13) (.seq (.reg 0 [.o 0 (.lt (some 6) (.mov (.const (.bool false)))),
    .g (.keep [6])]) (.ret)) (.skip))) (.seq (.seq (.reg 0 [.o 0 (.lt (some 14) (.ld true 4 (.tmp 3))),
    .o 1 (.lt (some 15) (.mov (.tmp 1))),
    .o 2 (.call (some 16) hallmarklaw11_small.id [(.tmp 14), (.tmp 15)]),
    .o 3 (.lt (some 17) (.un .not (.tmp 16))),
    .o 4 (.lt (some 18) (.mov (.tmp 17))),
    .gd 5 18 false (some 19) (.lt (some 19) (.ld true 4 (.tmp 3))),
    .gd 6 18 false (some 20) (.lt (some 20) (.mov (.tmp 2))),
    .gd 7 18 false (some 21) (.call (some 21) hallmarklaw11_small.id [(.tmp 19), (.tmp 20)]),
    .gd 8 18 false (some 22) (.lt (some 22) (.un .not (.tmp 21))),
    .o 9 (.lt (some 23) (.pick (.tmp 18) (.const (.bool true)) (.tmp 22))),
    .g (.keep [1, 2, 3, 23])]) (.cond (.tmp 23) (.seq (.reg 0 [.o 0 (.lt (some 6) (.mov (.const (.bool true)))),
    .g (.keep [6])]) (.ret)) (.skip))) (.seq (.reg 0 [.o 0 (.lt (some 24) (.ld true 4 (.tmp 3))),
    .o 1 (.call (some 25) hallmarklaw11_copied.id [(.tmp 24)]),
    .o 2 (.callo (some 26) (.func dom_New.id) [(.tmp 25)]),
    .o 3 (.lt (some 7) (.mov (.tmp 26))),
    .g (.keep [1, 2, 7])]) (.seq (.seq (.reg 0 [.o 0 (.lt (some 27) (.mov (.tmp 7))),
    .o 1 (.lt (some 28) (.eqZ 0 false (.tmp 27))),
    .g (.keep [1, 2, 7, 28])]) (.cond (.tmp 28) (.seq (.reg 0 [.o 0 (.lt (some 6) (.mov (.const (.bool false)))),
    .g (.keep [6])]) (.ret)) (.skip))) (.seq (.seq (.reg 0 [.o 0 (.lt (some 8) (.mov (.const (.int .i64 0)))),
    .g (.keep [1, 2, 7, 8])]) (.block 0 (.loop hallmarklaw11_DomBack.b0))) (.seq (.reg 0 [.o 0 (.lt (some 41) (.mov (.tmp 7))),
    .o 1 (.callm (some 42) (.func dom_Store_Copy.id) [(.tmp 41)]),
    .o 2 (.lt (some 9) (.mov (.tmp 42))),
    .g (.keep [2, 7, 9])]) (.seq (.reg 0 [.o 0 (.lt (some 43) (.mov (.tmp 7))),
    .o 1 (.callm (some 44) (.func dom_Store_Mark.id) [(.tmp 43)]),
    .o 2 (.lt (some 10) (.mov (.tmp 44))),
    .g (.keep [2, 7, 9, 10])]) (.seq (.seq (.reg 0 [.o 0 (.lt (some 11) (.mov (.const (.int .i64 0)))),
    .g (.keep [2, 7, 9, 10, 11])]) (.block 2 (.loop hallmarklaw11_DomBack.b1))) (.seq (.reg 0 [.o 0 (.lt (some 59) (.mov (.tmp 9))),
    .o 1 (.lt (some 60) (.eqZ 0 true (.tmp 59))),
    .o 2 (.lt (some 61) (.mov (.tmp 60))),
    .gd 3 61 true (some 62) (.lt (some 62) (.mov (.tmp 7))),
    .gd 4 61 true (some 63) (.lt (some 63) (.mov (.tmp 10))),
    .gd 5 61 true (some 64) (.callm (some 64) (.func dom_Store_Back.id) [(.tmp 62), (.tmp 63)]),
    .o 6 (.lt (some 65) (.pick (.tmp 61) (.tmp 64) (.const (.bool false)))),
    .o 7 (.lt (some 66) (.mov (.tmp 65))),
    .gd 8 66 true (some 67) (.lt (some 67) (.mov (.tmp 7))),
    .gd 9 66 true (some 68) (.lt (some 68) (.mov (.tmp 9))),
    .gd 10 66 true (some 69) (.callm (some 69) (.func dom_Same.id) [(.tmp 67), (.tmp 68)]),
    .o 11 (.lt (some 70) (.pick (.tmp 66) (.tmp 69) (.const (.bool false)))),
    .o 12 (.lt (some 71) (.mov (.tmp 70))),
    .gd 13 71 true (some 72) (.lt (some 72) (.mov (.tmp 7))),
    .gd 14 71 true (some 73) (.lt (some 73) (.mov (.tmp 10))),
    .gd 15 71 true (some 74) (.callm (some 74) (.func dom_Store_Back.id) [(.tmp 72), (.tmp 73)]),
    .gd 16 71 true (some 75) (.lt (some 75) (.un .not (.tmp 74))),
    .o 17 (.lt (some 76) (.pick (.tmp 71) (.tmp 75) (.const (.bool false)))),
    .o 18 (.lt (some 6) (.mov (.tmp 76))),
    .g (.keep [6])]) (.ret))))))))))
def hallmarklaw11_DomBack.rs : List Rs := [.sl 6]
theorem hallmarklaw11_DomBack.ok : isFn Try.prog hallmarklaw11_DomBack.id 77 hallmarklaw11_DomBack.ann hallmarklaw11_DomBack.ir hallmarklaw11_DomBack.rs := ⟨Try.f4, _, Try.func4, rfl, rfl, by kernel_rfl, by kernel_rfl⟩
-- hallmark/hallmarklaw11.known
def hallmarklaw11_known.ann : List (Nat × RA) := [(0, { gs := [], keep := some [] }), (1, { gs := [], keep := some [1], aps := [(1, [1000004]), (3, [1000002])] }), (2, { gs := [], keep := some [1, 21], aps := [(4, [1000000]), (9, [1000000])] }), (3, { gs := [], keep := some [0] }), (4, { gs := [], keep := some [1], aps := [(2, [1000000])] }), (5, { gs := [], keep := some [1, 2, 3], aps := [(2, [1000000])] }), (6, { gs := [], keep := some [1, 48], aps := [(8, [1000000]), (9, [1000004]), (15, [1000000])] }), (7, { gs := [], keep := some [0] }), (8, { gs := [], keep := some [1], aps := [(2, [1000000])] }), (9, { gs := [], keep := some [1, 5], aps := [(2, [1000000])] }), (10, { gs := [], keep := some [0], aps := [(4, [1000000]), (9, [1000000]), (14, [1000000]), (19, [1000000]), (24, [1000000]), (29, [1000000]), (33, [1000000]), (37, [1000000]), (38, [1000004]), (43, [1000000]), (49, [1000000])] })]
def hallmarklaw11_known.ir : C := .seq (.reg 0 [.o 0 (.lt (some 0) (.mov (.const (.bool false)))),
    .g (.keep [])]) (.seq (.reg 1 [.o 0 (.lt (some 6) (.build [.a (.string ⟨#[]⟩), .a (.int .i64 0), .a (.int .i64 0)] [(0, 1, (.const (.string { data := #[120] }))), (1, 1, (.const (.int .i64 (-2)))), (2, 1, (.const (.int .i64 2)))])),
    .o 1 (.bsv (some 7) 3 1 [.a (.string ⟨#[]⟩), .a (.int .i64 0), .a (.int .i64 0)] [(0, (.tmp 6))]),
    .o 2 (.lt (some 8) (.build [.a (.slice none 0 0), .a (.slice none 0 0), .a (.bool false), .a (.slice none 0 0)] [(0, 1, (.tmp 7))])),
    .o 3 (.callo (some 9) (.func dom_New.id) [(.tmp 8)]),
    .o 4 (.lt (some 1) (.mov (.tmp 9))),
    .g (.keep [1])]) (.seq (.seq (.reg 0 [.o 0 (.lt (some 10) (.mov (.tmp 1))),
    .o 1 (.lt (some 11) (.eqZ 0 false (.tmp 10))),
    .o 2 (.lt (some 12) (.mov (.tmp 11))),
    .gd 3 12 false (some 13) (.lt (some 13) (.mov (.tmp 1))),
    .gd 4 12 false (some 14) (.callm (some 14) (.func dom_Store_Vars.id) [(.tmp 13)]),
    .gd 5 12 false (some 15) (.lt (some 15) (.bin .neq (.tmp 14) (.const (.int .i64 1)))),
    .o 6 (.lt (some 16) (.pick (.tmp 12) (.const (.bool true)) (.tmp 15))),
    .o 7 (.lt (some 17) (.mov (.tmp 16))),
    .gd 8 17 false (some 18) (.lt (some 18) (.mov (.tmp 1))),
    .gd 9 17 false (some 19) (.callm (some 19) (.func dom_Store_Size.id) [(.tmp 18), (.const (.int .i64 0))]),
    .gd 10 17 false (some 20) (.lt (some 20) (.bin .neq (.tmp 19) (.const (.int .i64 5)))),
    .o 11 (.lt (some 21) (.pick (.tmp 17) (.const (.bool true)) (.tmp 20))),
    .g (.keep [1, 21])]) (.cond (.tmp 21) (.seq (.reg 0 [.o 0 (.lt (some 0) (.mov (.const (.bool false)))),
    .g (.keep [0])]) (.ret)) (.skip))) (.seq (.reg 0 [.o 0 (.lt (some 22) (.mov (.tmp 1))),
    .o 1 (.lt (some 23) (.build [.a (.int .i64 0), .a (.int .i64 0), .a (.int .i64 0)] [(0, 1, (.const (.int .i64 1))), (2, 1, (.const (.int .i64 (-1))))])),
    .o 2 (.callm (some 24) (.func dom_Store_Cut.id) [(.tmp 22), (.tmp 23)]),
    .g (.keep [1])]) (.seq (.reg 0 [.o 0 (.lt (some 26) (.mov (.tmp 1))),
    .o 1 (.lt (some 27) (.build [.a (.int .i64 0), .a (.int .i64 0), .a (.int .i64 0)] [(0, 1, (.const (.int .i64 3)))])),
    .o 2 (.callm (some 28) (.func dom_Store_Cut.id) [(.tmp 26), (.tmp 27)]),
    .o 3 (.lt (some 25) (.mov (.tmp 28))),
    .o 4 (.lt (some 29) (.ext (.tmp 25) 0)),
    .o 5 (.lt (some 30) (.ext (.tmp 25) 1)),
    .o 6 (.lt (some 2) (.mov (.tmp 29))),
    .o 7 (.lt (some 3) (.mov (.tmp 30))),
    .g (.keep [1, 2, 3])]) (.seq (.seq (.reg 1 [.o 0 (.lt (some 31) (.mov (.tmp 2))),
    .o 1 (.lt (some 32) (.un .not (.tmp 31))),
    .o 2 (.lt (some 33) (.mov (.tmp 32))),
    .gd 3 33 false (some 34) (.lt (some 34) (.mov (.tmp 3))),
    .gd 4 33 false (some 35) (.lt (some 35) (.un .not (.tmp 34))),
    .o 5 (.lt (some 36) (.pick (.tmp 33) (.const (.bool true)) (.tmp 35))),
    .o 6 (.lt (some 37) (.mov (.tmp 36))),
    .gd 7 37 false (some 38) (.lt (some 38) (.mov (.tmp 1))),
    .gd 8 37 false (some 39) (.callm (some 39) (.func dom_Store_Values.id) [(.tmp 38), (.const (.int .i64 0))]),
    .gd 9 37 false (some 40) (.bsv (some 40) 1 3 [.a (.int .i64 0)] [(0, (.const (.int .i64 (-1)))), (1, (.const (.int .i64 1))), (2, (.const (.int .i64 2)))]),
    .gd 10 37 false (some 41) (.call (some 41) hallmarklaw11_sameInts.id [(.tmp 39), (.tmp 40)]),
    .gd 11 37 false (some 42) (.lt (some 42) (.un .not (.tmp 41))),
    .o 12 (.lt (some 43) (.pick (.tmp 37) (.const (.bool true)) (.tmp 42))),
    .o 13 (.lt (some 44) (.mov (.tmp 43))),
    .gd 14 44 false (some 45) (.lt (some 45) (.mov (.tmp 1))),
    .gd 15 44 false (some 46) (.callm (some 46) (.func dom_Store_Mark.id) [(.tmp 45)]),
    .gd 16 44 false (some 47) (.lt (some 47) (.bin .neq (.tmp 46) (.const (.int .i64 0)))),
    .o 17 (.lt (some 48) (.pick (.tmp 44) (.const (.bool true)) (.tmp 47))),
    .g (.keep [1, 48])]) (.cond (.tmp 48) (.seq (.reg 0 [.o 0 (.lt (some 0) (.mov (.const (.bool false)))),
    .g (.keep [0])]) (.ret)) (.skip))) (.seq (.reg 0 [.o 0 (.lt (some 49) (.mov (.tmp 1))),
    .o 1 (.lt (some 50) (.build [.a (.int .i64 0), .a (.int .i64 0), .a (.int .i64 0)] [(0, 1, (.const (.int .i64 2)))])),
    .o 2 (.callm (some 51) (.func dom_Store_Cut.id) [(.tmp 49), (.tmp 50)]),
    .g (.keep [1])]) (.seq (.reg 0 [.o 0 (.lt (some 53) (.mov (.tmp 1))),
    .o 1 (.lt (some 54) (.build [.a (.int .i64 0), .a (.int .i64 0), .a (.int .i64 0)] [(0, 1, (.const (.int .i64 3))), (2, 1, (.const (.int .i64 (-1))))])),
    .o 2 (.callm (some 55) (.func dom_Store_Cut.id) [(.tmp 53), (.tmp 54)]),
    .o 3 (.lt (some 52) (.mov (.tmp 55))),
    .o 4 (.lt (some 56) (.ext (.tmp 52) 0)),
    .o 5 (.lt (some 57) (.ext (.tmp 52) 1)),
    .o 6 (.lt (some 4) (.mov (.tmp 56))),
    .o 7 (.lt (some 5) (.mov (.tmp 57))),
    .g (.keep [1, 5])]) (.seq (.reg 1 [.o 0 (.lt (some 58) (.mov (.tmp 5))),
    .o 1 (.lt (some 59) (.un .not (.tmp 58))),
    .o 2 (.lt (some 60) (.mov (.tmp 59))),
    .gd 3 60 true (some 61) (.lt (some 61) (.mov (.tmp 1))),
    .gd 4 60 true (some 62) (.callm (some 62) (.func dom_Store_Hi.id) [(.tmp 61), (.const (.int .i64 0))]),
    .gd 5 60 true (some 63) (.lt (some 63) (.bin .eql (.tmp 62) (.const (.int .i64 (-1))))),
    .o 6 (.lt (some 64) (.pick (.tmp 60) (.tmp 63) (.const (.bool false)))),
    .o 7 (.lt (some 65) (.mov (.tmp 64))),
    .gd 8 65 true (some 66) (.lt (some 66) (.mov (.tmp 1))),
    .gd 9 65 true (some 67) (.callm (some 67) (.func dom_Store_Lo.id) [(.tmp 66), (.const (.int .i64 0))]),
    .gd 10 65 true (some 68) (.lt (some 68) (.bin .eql (.tmp 67) (.const (.int .i64 (-1))))),
    .o 11 (.lt (some 69) (.pick (.tmp 65) (.tmp 68) (.const (.bool false)))),
    .o 12 (.lt (some 70) (.mov (.tmp 69))),
    .gd 13 70 true (some 71) (.lt (some 71) (.mov (.tmp 1))),
    .gd 14 70 true (some 72) (.callm (some 72) (.func dom_Store_Has.id) [(.tmp 71), (.const (.int .i64 0)), (.const (.int .i64 2))]),
    .gd 15 70 true (some 73) (.lt (some 73) (.un .not (.tmp 72))),
    .o 16 (.lt (some 74) (.pick (.tmp 70) (.tmp 73) (.const (.bool false)))),
    .o 17 (.lt (some 75) (.mov (.tmp 74))),
    .gd 18 75 true (some 76) (.lt (some 76) (.mov (.tmp 1))),
    .gd 19 75 true (some 77) (.callm (some 77) (.func dom_Store_Mark.id) [(.tmp 76)]),
    .gd 20 75 true (some 78) (.lt (some 78) (.bin .eql (.tmp 77) (.const (.int .i64 1)))),
    .o 21 (.lt (some 79) (.pick (.tmp 75) (.tmp 78) (.const (.bool false)))),
    .o 22 (.lt (some 80) (.mov (.tmp 79))),
    .gd 23 80 true (some 81) (.lt (some 81) (.mov (.tmp 1))),
    .gd 24 80 true (some 82) (.callm (some 82) (.func dom_Store_Back.id) [(.tmp 81), (.const (.int .i64 2))]),
    .gd 25 80 true (some 83) (.lt (some 83) (.un .not (.tmp 82))),
    .o 26 (.lt (some 84) (.pick (.tmp 80) (.tmp 83) (.const (.bool false)))),
    .o 27 (.lt (some 85) (.mov (.tmp 84))),
    .gd 28 85 true (some 86) (.lt (some 86) (.mov (.tmp 1))),
    .gd 29 85 true (some 87) (.callm (some 87) (.func dom_Store_Back.id) [(.tmp 86), (.const (.int .i64 0))]),
    .o 30 (.lt (some 88) (.pick (.tmp 85) (.tmp 87) (.const (.bool false)))),
    .o 31 (.lt (some 89) (.mov (.tmp 88))),
    .gd 32 89 true (some 90) (.lt (some 90) (.mov (.tmp 1))),
    .gd 33 89 true (some 91) (.callm (some 91) (.func dom_Store_Has.id) [(.tmp 90), (.const (.int .i64 0)), (.const (.int .i64 2))]),
    .o 34 (.lt (some 92) (.pick (.tmp 89) (.tmp 91) (.const (.bool false)))),
    .o 35 (.lt (some 93) (.mov (.tmp 92))),
    .gd 36 93 true (some 94) (.lt (some 94) (.mov (.tmp 1))),
    .gd 37 93 true (some 95) (.callm (some 95) (.func dom_Store_Open.id) [(.tmp 94)]),
    .gd 38 93 true (some 96) (.bsv (some 96) 1 1 [.a (.int .i64 0)] [(0, (.const (.int .i64 0)))]),
    .gd 39 93 true (some 97) (.call (some 97) hallmarklaw11_sameInts.id [(.tmp 95), (.tmp 96)]),
    .o 40 (.lt (some 98) (.pick (.tmp 93) (.tmp 97) (.const (.bool false)))),
    .o 41 (.lt (some 99) (.mov (.tmp 98))),
    .gd 42 99 true (some 100) (.lt (some 100) (.mov (.tmp 1))),
    .gd 43 99 true (some 101) (.callm (some 101) (.func dom_Store_Copy.id) [(.tmp 100)]),
    .gd 44 99 true (some 102) (.lt (some 102) (.eqZ 0 true (.tmp 101))),
    .o 45 (.lt (some 103) (.pick (.tmp 99) (.tmp 102) (.const (.bool false)))),
    .o 46 (.lt (some 104) (.mov (.tmp 103))),
    .gd 47 104 true (some 105) (.lt (some 105) (.mov (.tmp 1))),
    .gd 48 104 true (some 106) (.lt (some 106) (.mov (.tmp 1))),
    .gd 49 104 true (some 107) (.callm (some 107) (.func dom_Same.id) [(.tmp 105), (.tmp 106)]),
    .o 50 (.lt (some 108) (.pick (.tmp 104) (.tmp 107) (.const (.bool false)))),
    .o 51 (.lt (some 0) (.mov (.tmp 108))),
    .g (.keep [0])]) (.ret)))))))))
def hallmarklaw11_known.rs : List Rs := [.sl 0]
theorem hallmarklaw11_known.ok : isFn Try.prog hallmarklaw11_known.id 109 hallmarklaw11_known.ann hallmarklaw11_known.ir hallmarklaw11_known.rs := ⟨Try.f5, _, Try.func5, rfl, rfl, by kernel_rfl, by kernel_rfl⟩
-- hallmark/hallmarklaw11.small
def hallmarklaw11_small.ann : List (Nat × RA) := [(0, { gs := [], keep := some [1, 2] }), (1, { gs := [], keep := some [4] })]
def hallmarklaw11_small.ir : C := .seq (.reg 1 [.o 0 (.box (some 2) 0 4 (.tmp 0)),
    .o 1 (.lt (some 4) (.mov (.const (.bool false)))),
    .g (.keep [1, 2])]) (.seq (.reg 0 [.o 0 (.lt (some 5) (.fad (.tmp 2) 0)),
    .o 1 (.lt (some 6) (.ld false 1 (.tmp 5))),
    .o 2 (.lt (some 7) (.lenSl (.tmp 6))),
    .o 3 (.lt (some 8) (.bin .leq (.tmp 7) (.const (.int .i64 300)))),
    .o 4 (.lt (some 9) (.mov (.tmp 8))),
    .gd 5 9 true (some 10) (.lt (some 10) (.fad (.tmp 2) 1)),
    .gd 6 9 true (some 11) (.lt (some 11) (.ld false 1 (.tmp 10))),
    .gd 7 9 true (some 12) (.lt (some 12) (.lenSl (.tmp 11))),
    .gd 8 9 true (some 13) (.lt (some 13) (.bin .leq (.tmp 12) (.const (.int .i64 300)))),
    .o 9 (.lt (some 14) (.pick (.tmp 9) (.tmp 13) (.const (.bool false)))),
    .o 10 (.lt (some 15) (.mov (.tmp 14))),
    .gd 11 15 true (some 16) (.lt (some 16) (.fad (.tmp 2) 3)),
    .gd 12 15 true (some 17) (.lt (some 17) (.ld false 1 (.tmp 16))),
    .gd 13 15 true (some 18) (.lt (some 18) (.lenSl (.tmp 17))),
    .gd 14 15 true (some 19) (.lt (some 19) (.bin .leq (.tmp 18) (.const (.int .i64 300)))),
    .o 15 (.lt (some 20) (.pick (.tmp 15) (.tmp 19) (.const (.bool false)))),
    .o 16 (.lt (some 21) (.mov (.tmp 20))),
    .gd 17 21 true (some 22) (.lt (some 22) (.ld true 4 (.tmp 2))),
    .gd 18 21 true (some 23) (.call (some 23) hallmarklaw11_light.id [(.tmp 22)]),
    .o 19 (.lt (some 24) (.pick (.tmp 21) (.tmp 23) (.const (.bool false)))),
    .o 20 (.lt (some 25) (.mov (.tmp 24))),
    .gd 21 25 true (some 26) (.lt (some 26) (.mov (.tmp 1))),
    .gd 22 25 true (some 27) (.lt (some 27) (.lenSl (.tmp 26))),
    .gd 23 25 true (some 28) (.lt (some 28) (.bin .leq (.tmp 27) (.const (.int .i64 300)))),
    .o 24 (.lt (some 29) (.pick (.tmp 25) (.tmp 28) (.const (.bool false)))),
    .o 25 (.lt (some 4) (.mov (.tmp 29))),
    .g (.keep [4])]) (.ret))
def hallmarklaw11_small.rs : List Rs := [.sl 4]
theorem hallmarklaw11_small.ok : isFn Try.prog hallmarklaw11_small.id 30 hallmarklaw11_small.ann hallmarklaw11_small.ir hallmarklaw11_small.rs := ⟨Try.f6, _, Try.func6, rfl, rfl, by kernel_rfl, by kernel_rfl⟩
-- hallmark/dom.New
def dom_New.ann : List (Nat × RA) := [(0, { gs := [], keep := some [1] }), (1, { gs := [], keep := some [1, 3] }), (2, { gs := [], keep := some [1, 3, 5] }), (3, { gs := [], keep := some [1, 3, 18] }), (4, { gs := [(0, [.wk])], keep := some [2] }), (5, { gs := [(0, [.wk])], keep := some [3, 21, 22, 23] }), (6, { gs := [], keep := some [3, 21, 22, 23, 24] }), (7, { gs := [], keep := some [3, 7, 21, 22, 23] }), (8, { gs := [], keep := some [3, 8, 21, 22, 23] }), (9, { gs := [], keep := some [3, 8, 21, 22, 23, 37, 38] }), (10, { gs := [], keep := some [3, 8, 21, 22, 23, 37, 38, 39] }), (11, { gs := [], keep := some [3, 8, 9, 21, 22, 23, 37, 38] }), (12, { gs := [], keep := some [3, 8, 21, 22, 23, 37, 38], ord := [0, 1, 2, 3, 4, 5, 6, 7, 8, 9, 10, 11] }), (13, { gs := [], keep := some [3, 8, 21, 22, 23, 37, 38] }), (14, { gs := [], keep := some [3, 21, 22, 23], ord := [0, 1, 2, 3, 4, 5, 6, 7, 8, 9, 10], aps := [(6, [1000004])] }), (15, { gs := [], keep := some [3, 21, 22, 23] }), (16, { gs := [], keep := some [2] })]
def dom_New.b1 : C := .seq (.reg 0 [.o 0 (.lt (some 39) (.bin .lss (.tmp 38) (.tmp 37))),
    .g (.keep [3, 8, 21, 22, 23, 37, 38, 39])]) (.seq (.cond (.tmp 39) (.skip) (.exit 2)) (.seq (.block 3 (.seq (.reg 0 [.o 0 (.lt (some 40) (.mov (.tmp 38))),
    .o 1 (.lt (some 9) (.mov (.tmp 40))),
    .g (.keep [3, 8, 9, 21, 22, 23, 37, 38])]) (.reg 0 [.o 0 (.lt (some 41) (.mov (.tmp 9))),
    .o 1 (.lt (some 42) (.bin .quo (.tmp 41) (.const (.int .i64 32)))),
    .o 2 (.lt (some 43) (.fad (.tmp 8) 2)),
    .o 3 (.lt (some 44) (.ixA 2 1 (.tmp 43) (.tmp 42))),
    .o 4 (.lt (some 45) (.ld false 1 (.tmp 44))),
    .o 5 (.lt (some 46) (.mov (.tmp 9))),
    .o 6 (.lt (some 47) (.bin .rem (.tmp 46) (.const (.int .i64 32)))),
    .o 7 (.lt (some 48) (.bin .shl (.const (.int .u32 1)) (.tmp 47))),
    .o 8 (.lt (some 49) (.bin .or (.tmp 45) (.tmp 48))),
    .o 9 (.lt (some 50) (.fad (.tmp 8) 2)),
    .o 10 (.lt (some 51) (.ixA 2 1 (.tmp 50) (.tmp 42))),
    .o 11 (.store [] 1 (.tmp 51) (.tmp 49)),
    .g (.keep [3, 8, 21, 22, 23, 37, 38])]))) (.reg 0 [.o 0 (.lt (some 52) (.bin .add (.tmp 38) (.const (.int .i64 1)))),
    .o 1 (.lt (some 38) (.mov (.tmp 52))),
    .g (.keep [3, 8, 21, 22, 23, 37, 38])])))
def dom_New.b0 : C := .seq (.reg 0 [.o 0 (.lt (some 24) (.bin .lss (.tmp 23) (.tmp 22))),
    .g (.keep [3, 21, 22, 23, 24])]) (.seq (.cond (.tmp 24) (.skip) (.exit 0)) (.seq (.block 1 (.seq (.reg 1 [.o 0 (.lt (some 25) (.ixS 3 (.tmp 21) (.tmp 23))),
    .o 1 (.lt (some 26) (.ld true 3 (.tmp 25))),
    .o 2 (.alloc (some 7) 0 3 [.a (.string ⟨#[]⟩), .a (.int .i64 0), .a (.int .i64 0)]),
    .o 3 (.store [] 3 (.tmp 7) (.tmp 26)),
    .g (.keep [3, 7, 21, 22, 23])]) (.seq (.reg 1 [.o 0 (.lt (some 27) (.fad (.tmp 7) 1)),
    .o 1 (.lt (some 28) (.ld false 1 (.tmp 27))),
    .o 2 (.lt (some 29) (.fad (.tmp 7) 2)),
    .o 3 (.lt (some 30) (.ld false 1 (.tmp 29))),
    .o 4 (.lt (some 31) (.fad (.tmp 7) 1)),
    .o 5 (.lt (some 32) (.ld false 1 (.tmp 31))),
    .o 6 (.lt (some 33) (.bin .sub (.tmp 30) (.tmp 32))),
    .o 7 (.lt (some 34) (.bin .add (.tmp 33) (.const (.int .i64 1)))),
    .o 8 (.lt (some 35) (.build [.a (.int .i64 0), .a (.int .i64 0), .a (.int .u32 0), .a (.int .u32 0)] [(0, 1, (.tmp 28)), (1, 1, (.tmp 34))])),
    .o 9 (.alloc (some 8) 0 4 [.a (.int .i64 0), .a (.int .i64 0), .a (.int .u32 0), .a (.int .u32 0)]),
    .o 10 (.store [] 4 (.tmp 8) (.tmp 35)),
    .g (.keep [3, 8, 21, 22, 23])]) (.seq (.seq (.reg 0 [.o 0 (.lt (some 36) (.fad (.tmp 8) 1)),
    .o 1 (.lt (some 37) (.ld false 1 (.tmp 36))),
    .o 2 (.lt (some 38) (.mov (.const (.int .i64 0)))),
    .g (.keep [3, 8, 21, 22, 23, 37, 38])]) (.block 2 (.loop dom_New.b1))) (.reg 2 [.o 0 (.lt (some 53) (.mov (.tmp 3))),
    .o 1 (.lt (some 54) (.mov (.tmp 3))),
    .o 2 (.lt (some 55) (.nilc (.tmp 54))),
    .o 3 (.lt (some 56) (.fad (.tmp 55) 0)),
    .o 4 (.lt (some 57) (.ld false 1 (.tmp 56))),
    .o 5 (.lt (some 58) (.ld true 4 (.tmp 8))),
    .o 6 (.bsv (some 59) 4 1 [.a (.int .i64 0), .a (.int .i64 0), .a (.int .u32 0), .a (.int .u32 0)] [(0, (.tmp 58))]),
    .o 7 (.app [] (some 60) 1 4 24 (.tmp 57) (.tmp 59)),
    .o 8 (.lt (some 61) (.nilc (.tmp 53))),
    .o 9 (.lt (some 62) (.fad (.tmp 61) 0)),
    .o 10 (.store [] 1 (.tmp 62) (.tmp 60)),
    .g (.keep [3, 21, 22, 23])]))))) (.reg 0 [.o 0 (.lt (some 63) (.bin .add (.tmp 23) (.const (.int .i64 1)))),
    .o 1 (.lt (some 23) (.mov (.tmp 63))),
    .g (.keep [3, 21, 22, 23])])))
def dom_New.ir : C := .seq (.reg 1 [.o 0 (.box (some 1) 0 4 (.tmp 0)),
    .o 1 (.lt (some 2) (.mov (.const (.pointer none)))),
    .g (.keep [1])]) (.seq (.reg 1 [.o 0 (.lt (some 10) (.build [.a (.slice none 0 0), .a (.slice none 0 0)] [])),
    .o 1 (.box (some 11) 0 2 (.tmp 10)),
    .o 2 (.lt (some 3) (.mov (.tmp 11))),
    .g (.keep [1, 3])]) (.seq (.seq (.reg 0 [.o 0 (.lt (some 13) (.ld true 4 (.tmp 1))),
    .o 1 (.call (some 14) model_Check.id [(.tmp 13)]),
    .o 2 (.lt (some 12) (.mov (.tmp 14))),
    .o 3 (.lt (some 15) (.ext (.tmp 12) 0)),
    .o 4 (.lt (some 16) (.ext (.tmp 12) 1)),
    .o 5 (.lt (some 4) (.mov (.tmp 15))),
    .o 6 (.lt (some 5) (.mov (.tmp 16))),
    .g (.keep [1, 3, 5])]) (.seq (.reg 0 [.o 0 (.lt (some 17) (.mov (.tmp 5))),
    .o 1 (.lt (some 18) (.bin .neq (.tmp 17) (.const (.int .i64 0)))),
    .g (.keep [1, 3, 18])]) (.cond (.tmp 18) (.seq (.reg 0 [.g (.wk),
    .o 0 (.lt (some 19) (.mov (.tmp 3))),
    .o 1 (.lt (some 2) (.mov (.tmp 19))),
    .g (.keep [2])]) (.ret)) (.skip)))) (.seq (.seq (.reg 0 [.g (.wk),
    .o 0 (.lt (some 20) (.fad (.tmp 1) 0)),
    .o 1 (.lt (some 21) (.ld false 1 (.tmp 20))),
    .o 2 (.lt (some 22) (.lenSl (.tmp 21))),
    .o 3 (.lt (some 23) (.mov (.const (.int .i64 0)))),
    .g (.keep [3, 21, 22, 23])]) (.block 0 (.loop dom_New.b0))) (.seq (.reg 0 [.o 0 (.lt (some 64) (.mov (.tmp 3))),
    .o 1 (.lt (some 2) (.mov (.tmp 64))),
    .g (.keep [2])]) (.ret)))))
def dom_New.rs : List Rs := [.sl 2]
theorem dom_New.ok : isFn Try.prog dom_New.id 65 dom_New.ann dom_New.ir dom_New.rs := ⟨Try.f7, _, Try.func7, rfl, rfl, by kernel_rfl, by kernel_rfl⟩
-- hallmark/hallmarklaw11.copied
def hallmarklaw11_copied.ann : List (Nat × RA) := [(0, { gs := [], keep := some [1, 2] }), (1, { gs := [], keep := some [1, 2, 3] }), (2, { gs := [(3, [.frz 11])], keep := some [1, 2, 3] }), (3, { gs := [(3, [.frz 15])], keep := some [1, 2, 3] }), (4, { gs := [], keep := some [1, 2, 3, 4] }), (5, { gs := [], keep := some [1, 2, 3, 4, 21] }), (6, { gs := [], keep := some [1, 2, 3, 4] }), (7, { gs := [], keep := some [1, 2, 3, 4, 5] }), (8, { gs := [(3, [.frz 31])], keep := some [1, 2, 3, 4, 5] }), (9, { gs := [(3, [.frz 35])], keep := some [1, 2, 3, 4, 5] }), (10, { gs := [(3, [.frz 39])], keep := some [1, 2, 3, 4, 5] }), (11, { gs := [], keep := some [1, 2, 3, 4], aps := [(3, [1000004])] }), (12, { gs := [], keep := some [2] })]
def hallmarklaw11_copied.b0 : C := .seq (.seq (.reg 0 [.o 0 (.lt (some 17) (.mov (.tmp 4))),
    .o 1 (.lt (some 18) (.fad (.tmp 1) 1)),
    .o 2 (.lt (some 19) (.ld false 1 (.tmp 18))),
    .o 3 (.lt (some 20) (.lenSl (.tmp 19))),
    .o 4 (.lt (some 21) (.bin .lss (.tmp 17) (.tmp 20))),
    .g (.keep [1, 2, 3, 4, 21])]) (.cond (.tmp 21) (.skip) (.exit 0))) (.seq (.block 1 (.seq (.reg 1 [.o 0 (.lt (some 24) (.fad (.tmp 1) 1)),
    .o 1 (.lt (some 25) (.ld false 1 (.tmp 24))),
    .o 2 (.lt (some 26) (.mov (.tmp 4))),
    .o 3 (.lt (some 27) (.ixS 10 (.tmp 25) (.tmp 26))),
    .o 4 (.lt (some 28) (.ld true 10 (.tmp 27))),
    .o 5 (.alloc (some 5) 0 10 [.a (.int .i64 0), .a (.int .i64 0), .a (.slice none 0 0), .a (.int .i64 0), .a (.int .i64 0), .a (.int .i64 0), .a (.int .i64 0), .a (.slice none 0 0), .a (.slice none 0 0), .a (.slice none 0 0)]),
    .o 6 (.store [] 10 (.tmp 5) (.tmp 28)),
    .g (.keep [1, 2, 3, 4, 5])]) (.seq (.reg 1 [.o 0 (.lt (some 29) (.fad (.tmp 5) 2)),
    .o 1 (.lt (some 30) (.ld false 1 (.tmp 29))),
    .o 2 (.app [] (some 31) 0 2 16 (.const (.slice none 0 0)) (.tmp 30)),
    .g (.frz 31),
    .o 3 (.lt (some 32) (.fad (.tmp 5) 2)),
    .o 4 (.store [] 1 (.tmp 32) (.tmp 31)),
    .g (.keep [1, 2, 3, 4, 5])]) (.seq (.reg 1 [.o 0 (.lt (some 33) (.fad (.tmp 5) 7)),
    .o 1 (.lt (some 34) (.ld false 1 (.tmp 33))),
    .o 2 (.app [] (some 35) 0 1 8 (.const (.slice none 0 0)) (.tmp 34)),
    .g (.frz 35),
    .o 3 (.lt (some 36) (.fad (.tmp 5) 7)),
    .o 4 (.store [] 1 (.tmp 36) (.tmp 35)),
    .g (.keep [1, 2, 3, 4, 5])]) (.seq (.reg 1 [.o 0 (.lt (some 37) (.fad (.tmp 5) 8)),
    .o 1 (.lt (some 38) (.ld false 1 (.tmp 37))),
    .o 2 (.app [] (some 39) 0 1 8 (.const (.slice none 0 0)) (.tmp 38)),
    .g (.frz 39),
    .o 3 (.lt (some 40) (.fad (.tmp 5) 8)),
    .o 4 (.store [] 1 (.tmp 40) (.tmp 39)),
    .g (.keep [1, 2, 3, 4, 5])]) (.reg 2 [.o 0 (.lt (some 41) (.fad (.tmp 3) 1)),
    .o 1 (.lt (some 42) (.ld false 1 (.tmp 41))),
    .o 2 (.lt (some 43) (.ld true 10 (.tmp 5))),
    .o 3 (.bsv (some 44) 10 1 [.a (.int .i64 0), .a (.int .i64 0), .a (.slice none 0 0), .a (.int .i64 0), .a (.int .i64 0), .a (.int .i64 0), .a (.int .i64 0), .a (.slice none 0 0), .a (.slice none 0 0), .a (.slice none 0 0)] [(0, (.tmp 43))]),
    .o 4 (.app [] (some 45) 1 10 144 (.tmp 42) (.tmp 44)),
    .o 5 (.lt (some 46) (.fad (.tmp 3) 1)),
    .o 6 (.store [] 1 (.tmp 46) (.tmp 45)),
    .g (.keep [1, 2, 3, 4])])))))) (.reg 0 [.o 0 (.lt (some 22) (.mov (.tmp 4))),
    .o 1 (.lt (some 23) (.bin .add (.tmp 22) (.const (.int .i64 1)))),
    .o 2 (.lt (some 4) (.mov (.tmp 23))),
    .g (.keep [1, 2, 3, 4])]))
def hallmarklaw11_copied.ir : C := .seq (.reg 2 [.o 0 (.box (some 1) 0 4 (.tmp 0)),
    .o 1 (.alloc (some 2) 1 4 [.a (.slice none 0 0), .a (.slice none 0 0), .a (.bool false), .a (.slice none 0 0)]),
    .g (.keep [1, 2])]) (.seq (.reg 1 [.o 0 (.lt (some 6) (.fad (.tmp 1) 2)),
    .o 1 (.lt (some 7) (.ld false 1 (.tmp 6))),
    .o 2 (.lt (some 8) (.build [.a (.slice none 0 0), .a (.slice none 0 0), .a (.bool false), .a (.slice none 0 0)] [(2, 1, (.tmp 7))])),
    .o 3 (.alloc (some 3) 0 4 [.a (.slice none 0 0), .a (.slice none 0 0), .a (.bool false), .a (.slice none 0 0)]),
    .o 4 (.store [] 4 (.tmp 3) (.tmp 8)),
    .g (.keep [1, 2, 3])]) (.seq (.reg 1 [.o 0 (.lt (some 9) (.fad (.tmp 1) 0)),
    .o 1 (.lt (some 10) (.ld false 1 (.tmp 9))),
    .o 2 (.app [] (some 11) 0 3 32 (.const (.slice none 0 0)) (.tmp 10)),
    .g (.frz 11),
    .o 3 (.lt (some 12) (.fad (.tmp 3) 0)),
    .o 4 (.store [] 1 (.tmp 12) (.tmp 11)),
    .g (.keep [1, 2, 3])]) (.seq (.reg 1 [.o 0 (.lt (some 13) (.fad (.tmp 1) 3)),
    .o 1 (.lt (some 14) (.ld false 1 (.tmp 13))),
    .o 2 (.app [] (some 15) 0 2 16 (.const (.slice none 0 0)) (.tmp 14)),
    .g (.frz 15),
    .o 3 (.lt (some 16) (.fad (.tmp 3) 3)),
    .o 4 (.store [] 1 (.tmp 16) (.tmp 15)),
    .g (.keep [1, 2, 3])]) (.seq (.seq (.reg 0 [.o 0 (.lt (some 4) (.mov (.const (.int .i64 0)))),
    .g (.keep [1, 2, 3, 4])]) (.block 0 (.loop hallmarklaw11_copied.b0))) (.seq (.reg 0 [.o 0 (.lt (some 47) (.ld true 4 (.tmp 3))),
    .o 1 (.store [] 4 (.tmp 2) (.tmp 47)),
    .g (.keep [2])]) (.ret))))))
def hallmarklaw11_copied.rs : List Rs := [.ce 2 true 4]
theorem hallmarklaw11_copied.ok : isFn Try.prog hallmarklaw11_copied.id 48 hallmarklaw11_copied.ann hallmarklaw11_copied.ir hallmarklaw11_copied.rs := ⟨Try.f8, _, Try.func8, rfl, rfl, by kernel_rfl, by kernel_rfl⟩
-- hallmark/hallmarklaw11.cuts
def hallmarklaw11_cuts.ann : List (Nat × RA) := [(0, { gs := [], keep := some [0, 1] }), (1, { gs := [], keep := some [0, 1, 5] }), (2, { gs := [], keep := some [0, 1, 5, 11] }), (3, { gs := [], keep := some [0, 1, 5] }), (4, { gs := [], keep := some [0, 1, 5, 7], aps := [(5, [1000000])] }), (5, { gs := [], keep := some [0, 1, 5, 24] }), (6, { gs := [], keep := some [4] }), (7, { gs := [], keep := some [4] })]
def hallmarklaw11_cuts.b0 : C := .seq (.seq (.reg 0 [.o 0 (.lt (some 8) (.mov (.tmp 5))),
    .o 1 (.lt (some 9) (.mov (.tmp 1))),
    .o 2 (.lt (some 10) (.lenSl (.tmp 9))),
    .o 3 (.lt (some 11) (.bin .lss (.tmp 8) (.tmp 10))),
    .g (.keep [0, 1, 5, 11])]) (.cond (.tmp 11) (.skip) (.exit 0))) (.seq (.block 1 (.seq (.reg 0 [.o 0 (.lt (some 15) (.mov (.tmp 0))),
    .o 1 (.lt (some 16) (.mov (.tmp 1))),
    .o 2 (.lt (some 17) (.mov (.tmp 5))),
    .o 3 (.lt (some 18) (.ixS 3 (.tmp 16) (.tmp 17))),
    .o 4 (.lt (some 19) (.ld true 3 (.tmp 18))),
    .o 5 (.callm (some 20) (.func dom_Store_Cut.id) [(.tmp 15), (.tmp 19)]),
    .o 6 (.lt (some 14) (.mov (.tmp 20))),
    .o 7 (.lt (some 21) (.ext (.tmp 14) 0)),
    .o 8 (.lt (some 22) (.ext (.tmp 14) 1)),
    .o 9 (.lt (some 6) (.mov (.tmp 21))),
    .o 10 (.lt (some 7) (.mov (.tmp 22))),
    .g (.keep [0, 1, 5, 7])]) (.seq (.reg 0 [.o 0 (.lt (some 23) (.mov (.tmp 7))),
    .o 1 (.lt (some 24) (.un .not (.tmp 23))),
    .g (.keep [0, 1, 5, 24])]) (.cond (.tmp 24) (.seq (.reg 0 [.o 0 (.lt (some 4) (.mov (.const (.bool false)))),
    .g (.keep [4])]) (.ret)) (.skip))))) (.reg 0 [.o 0 (.lt (some 12) (.mov (.tmp 5))),
    .o 1 (.lt (some 13) (.bin .add (.tmp 12) (.const (.int .i64 1)))),
    .o 2 (.lt (some 5) (.mov (.tmp 13))),
    .g (.keep [0, 1, 5])]))
def hallmarklaw11_cuts.ir : C := .seq (.reg 0 [.o 0 (.lt (some 4) (.mov (.const (.bool false)))),
    .g (.keep [0, 1])]) (.seq (.seq (.reg 0 [.o 0 (.lt (some 5) (.mov (.const (.int .i64 0)))),
    .g (.keep [0, 1, 5])]) (.block 0 (.loop hallmarklaw11_cuts.b0))) (.seq (.reg 0 [.o 0 (.lt (some 4) (.mov (.const (.bool true)))),
    .g (.keep [4])]) (.ret)))
def hallmarklaw11_cuts.rs : List Rs := [.sl 4]
theorem hallmarklaw11_cuts.ok : isFn Try.prog hallmarklaw11_cuts.id 25 hallmarklaw11_cuts.ann hallmarklaw11_cuts.ir hallmarklaw11_cuts.rs := ⟨Try.f9, _, Try.func9, rfl, rfl, by kernel_rfl, by kernel_rfl⟩
-- hallmark/dom.Same
def dom_Same.ann : List (Nat × RA) := [(0, { gs := [], keep := some [0, 1] }), (1, { gs := [], keep := some [0, 1, 16], ord := [0, 1, 2, 3, 4, 5, 6, 7, 8, 9, 10] }), (2, { gs := [], keep := some [4] }), (3, { gs := [], keep := some [0, 1, 21, 22] }), (4, { gs := [], keep := some [0, 1, 21, 22, 23] }), (5, { gs := [], keep := some [0, 1, 5, 21, 22] }), (6, { gs := [], keep := some [0, 1, 21, 22, 32], aps := [(2, [1000000]), (5, [1000000])] }), (7, { gs := [], keep := some [4] }), (8, { gs := [], keep := some [0, 1, 21, 22] }), (9, { gs := [], keep := some [4] })]
def dom_Same.b0 : C := .seq (.reg 0 [.o 0 (.lt (some 23) (.bin .lss (.tmp 22) (.tmp 21))),
    .g (.keep [0, 1, 21, 22, 23])]) (.seq (.cond (.tmp 23) (.skip) (.exit 0)) (.seq (.block 1 (.seq (.reg 0 [.o 0 (.lt (some 24) (.mov (.tmp 22))),
    .o 1 (.lt (some 5) (.mov (.tmp 24))),
    .g (.keep [0, 1, 5, 21, 22])]) (.seq (.reg 0 [.o 0 (.lt (some 25) (.mov (.tmp 0))),
    .o 1 (.lt (some 26) (.mov (.tmp 5))),
    .o 2 (.callm (some 27) (.func dom_Store_Values.id) [(.tmp 25), (.tmp 26)]),
    .o 3 (.lt (some 28) (.mov (.tmp 1))),
    .o 4 (.lt (some 29) (.mov (.tmp 5))),
    .o 5 (.callm (some 30) (.func dom_Store_Values.id) [(.tmp 28), (.tmp 29)]),
    .o 6 (.call (some 31) slices_Equal_Lint_int.id [(.tmp 27), (.tmp 30)]),
    .o 7 (.lt (some 32) (.un .not (.tmp 31))),
    .g (.keep [0, 1, 21, 22, 32])]) (.cond (.tmp 32) (.seq (.reg 0 [.o 0 (.lt (some 4) (.mov (.const (.bool false)))),
    .g (.keep [4])]) (.ret)) (.skip))))) (.reg 0 [.o 0 (.lt (some 33) (.bin .add (.tmp 22) (.const (.int .i64 1)))),
    .o 1 (.lt (some 22) (.mov (.tmp 33))),
    .g (.keep [0, 1, 21, 22])])))
def dom_Same.ir : C := .seq (.reg 0 [.o 0 (.lt (some 4) (.mov (.const (.bool false)))),
    .g (.keep [0, 1])]) (.seq (.seq (.reg 0 [.o 0 (.lt (some 6) (.mov (.tmp 0))),
    .o 1 (.lt (some 7) (.nilc (.tmp 6))),
    .o 2 (.lt (some 8) (.fad (.tmp 7) 0)),
    .o 3 (.lt (some 9) (.ld false 1 (.tmp 8))),
    .o 4 (.lt (some 10) (.lenSl (.tmp 9))),
    .o 5 (.lt (some 11) (.mov (.tmp 1))),
    .o 6 (.lt (some 12) (.nilc (.tmp 11))),
    .o 7 (.lt (some 13) (.fad (.tmp 12) 0)),
    .o 8 (.lt (some 14) (.ld false 1 (.tmp 13))),
    .o 9 (.lt (some 15) (.lenSl (.tmp 14))),
    .o 10 (.lt (some 16) (.bin .neq (.tmp 10) (.tmp 15))),
    .g (.keep [0, 1, 16])]) (.cond (.tmp 16) (.seq (.reg 0 [.o 0 (.lt (some 4) (.mov (.const (.bool false)))),
    .g (.keep [4])]) (.ret)) (.skip))) (.seq (.seq (.reg 0 [.o 0 (.lt (some 17) (.mov (.tmp 0))),
    .o 1 (.lt (some 18) (.nilc (.tmp 17))),
    .o 2 (.lt (some 19) (.fad (.tmp 18) 0)),
    .o 3 (.lt (some 20) (.ld false 1 (.tmp 19))),
    .o 4 (.lt (some 21) (.lenSl (.tmp 20))),
    .o 5 (.lt (some 22) (.mov (.const (.int .i64 0)))),
    .g (.keep [0, 1, 21, 22])]) (.block 0 (.loop dom_Same.b0))) (.seq (.reg 0 [.o 0 (.lt (some 4) (.mov (.const (.bool true)))),
    .g (.keep [4])]) (.ret))))
def dom_Same.rs : List Rs := [.sl 4]
theorem dom_Same.ok : isFn Try.prog dom_Same.id 34 dom_Same.ann dom_Same.ir dom_Same.rs := ⟨Try.f10, _, Try.func10, rfl, rfl, by kernel_rfl, by kernel_rfl⟩
-- (*hallmark/dom.Store).Vars
def dom_Store_Vars.ann : List (Nat × RA) := [(0, { gs := [], keep := some [0] }), (1, { gs := [], keep := some [2] })]
def dom_Store_Vars.ir : C := .seq (.reg 0 [.o 0 (.lt (some 2) (.mov (.const (.int .i64 0)))),
    .g (.keep [0])]) (.seq (.reg 0 [.o 0 (.lt (some 3) (.mov (.tmp 0))),
    .o 1 (.lt (some 4) (.nilc (.tmp 3))),
    .o 2 (.lt (some 5) (.fad (.tmp 4) 0)),
    .o 3 (.lt (some 6) (.ld false 1 (.tmp 5))),
    .o 4 (.lt (some 7) (.lenSl (.tmp 6))),
    .o 5 (.lt (some 2) (.mov (.tmp 7))),
    .g (.keep [2])]) (.ret))
def dom_Store_Vars.rs : List Rs := [.sl 2]
theorem dom_Store_Vars.ok : isFn Try.prog dom_Store_Vars.id 8 dom_Store_Vars.ann dom_Store_Vars.ir dom_Store_Vars.rs := ⟨Try.f11, _, Try.func11, rfl, rfl, by kernel_rfl, by kernel_rfl⟩
-- (*hallmark/dom.Store).Has
def dom_Store_Has.ann : List (Nat × RA) := [(0, { gs := [], keep := some [0, 1, 2] }), (1, { gs := [], keep := some [0, 1, 2, 11], aps := [(2, [1000000])] }), (2, { gs := [], keep := some [6] }), (3, { gs := [], keep := some [2, 7] }), (4, { gs := [], keep := some [6], aps := [(19, [1000000])] })]
def dom_Store_Has.ir : C := .seq (.reg 0 [.o 0 (.lt (some 6) (.mov (.const (.bool false)))),
    .g (.keep [0, 1, 2])]) (.seq (.seq (.reg 0 [.o 0 (.lt (some 8) (.mov (.tmp 0))),
    .o 1 (.lt (some 9) (.mov (.tmp 1))),
    .o 2 (.callm (some 10) (.func dom_Store_is.id) [(.tmp 8), (.tmp 9)]),
    .o 3 (.lt (some 11) (.un .not (.tmp 10))),
    .g (.keep [0, 1, 2, 11])]) (.cond (.tmp 11) (.seq (.reg 0 [.o 0 (.lt (some 6) (.mov (.const (.bool false)))),
    .g (.keep [6])]) (.ret)) (.skip))) (.seq (.reg 1 [.o 0 (.lt (some 12) (.mov (.tmp 0))),
    .o 1 (.lt (some 13) (.nilc (.tmp 12))),
    .o 2 (.lt (some 14) (.fad (.tmp 13) 0)),
    .o 3 (.lt (some 15) (.ld false 1 (.tmp 14))),
    .o 4 (.lt (some 16) (.mov (.tmp 1))),
    .o 5 (.lt (some 17) (.ixS 4 (.tmp 15) (.tmp 16))),
    .o 6 (.lt (some 18) (.ld true 4 (.tmp 17))),
    .o 7 (.alloc (some 7) 0 4 [.a (.int .i64 0), .a (.int .i64 0), .a (.int .u32 0), .a (.int .u32 0)]),
    .o 8 (.store [] 4 (.tmp 7) (.tmp 18)),
    .g (.keep [2, 7])]) (.seq (.reg 0 [.o 0 (.lt (some 19) (.mov (.tmp 2))),
    .o 1 (.lt (some 20) (.fad (.tmp 7) 0)),
    .o 2 (.lt (some 21) (.ld false 1 (.tmp 20))),
    .o 3 (.lt (some 22) (.bin .geq (.tmp 19) (.tmp 21))),
    .o 4 (.lt (some 23) (.mov (.tmp 22))),
    .gd 5 23 true (some 24) (.lt (some 24) (.mov (.tmp 2))),
    .gd 6 23 true (some 25) (.lt (some 25) (.fad (.tmp 7) 0)),
    .gd 7 23 true (some 26) (.lt (some 26) (.ld false 1 (.tmp 25))),
    .gd 8 23 true (some 27) (.lt (some 27) (.fad (.tmp 7) 1)),
    .gd 9 23 true (some 28) (.lt (some 28) (.ld false 1 (.tmp 27))),
    .gd 10 23 true (some 29) (.lt (some 29) (.bin .add (.tmp 26) (.tmp 28))),
    .gd 11 23 true (some 30) (.lt (some 30) (.bin .lss (.tmp 24) (.tmp 29))),
    .o 12 (.lt (some 31) (.pick (.tmp 23) (.tmp 30) (.const (.bool false)))),
    .o 13 (.lt (some 32) (.mov (.tmp 31))),
    .gd 14 32 true (some 33) (.lt (some 33) (.fad (.tmp 7) 2)),
    .gd 15 32 true (some 34) (.lt (some 34) (.mov (.tmp 2))),
    .gd 16 32 true (some 35) (.lt (some 35) (.fad (.tmp 7) 0)),
    .gd 17 32 true (some 36) (.lt (some 36) (.ld false 1 (.tmp 35))),
    .gd 18 32 true (some 37) (.lt (some 37) (.bin .sub (.tmp 34) (.tmp 36))),
    .gd 19 32 true (some 38) (.callm (some 38) (.func dom_set_has.id) [(.tmp 33), (.tmp 37)]),
    .o 20 (.lt (some 39) (.pick (.tmp 32) (.tmp 38) (.const (.bool false)))),
    .o 21 (.lt (some 6) (.mov (.tmp 39))),
    .g (.keep [6])]) (.ret))))
def dom_Store_Has.rs : List Rs := [.sl 6]
theorem dom_Store_Has.ok : isFn Try.prog dom_Store_Has.id 40 dom_Store_Has.ann dom_Store_Has.ir dom_Store_Has.rs := ⟨Try.f12, _, Try.func12, rfl, rfl, by kernel_rfl, by kernel_rfl⟩
-- hallmark/hallmarklaw11.does
def hallmarklaw11_does.ann : List (Nat × RA) := [(0, { gs := [], keep := some [0, 2, 4] }), (1, { gs := [], keep := some [0, 2, 4, 7] }), (2, { gs := [], keep := some [0, 2, 4, 7, 8] }), (3, { gs := [], keep := some [], aps := [(3, [1000000])] }), (4, { gs := [], keep := some [0, 2, 4, 7, 14] }), (5, { gs := [], keep := some [], aps := [(1, [1000000])] }), (6, { gs := [], keep := some [0, 2, 4, 18] }), (7, { gs := [], keep := some [0, 4, 23] }), (8, { gs := [], keep := some [], aps := [(3, [1000000])] })]
def hallmarklaw11_does.ir : C := .seq (.reg 1 [.o 0 (.box (some 4) 0 5 (.tmp 1)),
    .g (.keep [0, 2, 4])]) (.seq (.reg 0 [.o 0 (.lt (some 6) (.fad (.tmp 4) 0)),
    .o 1 (.lt (some 7) (.ld false 1 (.tmp 6))),
    .g (.keep [0, 2, 4, 7])]) (.block 0 (.seq (.reg 0 [.o 0 (.lt (some 9) (.bin .eql (.tmp 7) (.const (.int .i64 1)))),
    .o 1 (.lt (some 8) (.mov (.tmp 9))),
    .g (.keep [0, 2, 4, 7, 8])]) (.cond (.tmp 8) (.reg 0 [.o 0 (.lt (some 10) (.mov (.tmp 0))),
    .o 1 (.lt (some 11) (.fad (.tmp 4) 1)),
    .o 2 (.lt (some 12) (.ld true 3 (.tmp 11))),
    .o 3 (.callm (some 13) (.func dom_Store_Cut.id) [(.tmp 10), (.tmp 12)]),
    .g (.keep [])]) (.seq (.reg 0 [.o 0 (.lt (some 15) (.bin .eql (.tmp 7) (.const (.int .i64 2)))),
    .o 1 (.lt (some 14) (.mov (.tmp 15))),
    .g (.keep [0, 2, 4, 7, 14])]) (.cond (.tmp 14) (.reg 0 [.o 0 (.lt (some 16) (.mov (.tmp 0))),
    .o 1 (.callm (some 17) (.func dom_Store_Mark.id) [(.tmp 16)]),
    .g (.keep [])]) (.seq (.reg 0 [.o 0 (.lt (some 19) (.bin .eql (.tmp 7) (.const (.int .i64 3)))),
    .o 1 (.lt (some 18) (.mov (.tmp 19))),
    .g (.keep [0, 2, 4, 18])]) (.cond (.tmp 18) (.seq (.reg 0 [.o 0 (.lt (some 20) (.fad (.tmp 4) 4)),
    .o 1 (.lt (some 21) (.ld false 1 (.tmp 20))),
    .o 2 (.lt (some 22) (.mov (.tmp 2))),
    .o 3 (.lt (some 23) (.bin .geq (.tmp 21) (.tmp 22))),
    .g (.keep [0, 4, 23])]) (.cond (.tmp 23) (.reg 0 [.o 0 (.lt (some 24) (.mov (.tmp 0))),
    .o 1 (.lt (some 25) (.fad (.tmp 4) 4)),
    .o 2 (.lt (some 26) (.ld false 1 (.tmp 25))),
    .o 3 (.callm (some 27) (.func dom_Store_Back.id) [(.tmp 24), (.tmp 26)]),
    .g (.keep [])]) (.skip))) (.skip)))))))))
def hallmarklaw11_does.rs : List Rs := []
theorem hallmarklaw11_does.ok : isFn Try.prog hallmarklaw11_does.id 28 hallmarklaw11_does.ann hallmarklaw11_does.ir hallmarklaw11_does.rs := ⟨Try.f13, _, Try.func13, rfl, rfl, by kernel_rfl, by kernel_rfl⟩
-- (*hallmark/dom.Store).Copy
def dom_Store_Copy.ann : List (Nat × RA) := [(0, { gs := [], keep := some [0] }), (1, { gs := [], keep := some [0, 3], aps := [(4, [1000000])] }), (2, { gs := [], keep := some [3, 16, 17, 18] }), (3, { gs := [], keep := some [3, 16, 17, 18, 19] }), (4, { gs := [], keep := some [3, 5, 16, 17, 18] }), (5, { gs := [], keep := some [3, 16, 17, 18], ord := [0, 1, 2, 3, 4, 5, 6, 7, 8, 9, 10, 11], aps := [(6, [1000003, 23, 24, 25])] }), (6, { gs := [], keep := some [3, 16, 17, 18] }), (7, { gs := [], keep := some [2] })]
def dom_Store_Copy.b0 : C := .seq (.reg 0 [.o 0 (.lt (some 19) (.bin .lss (.tmp 18) (.tmp 17))),
    .g (.keep [3, 16, 17, 18, 19])]) (.seq (.cond (.tmp 19) (.skip) (.exit 0)) (.seq (.block 1 (.seq (.reg 0 [.o 0 (.lt (some 20) (.ixS 1 (.tmp 16) (.tmp 18))),
    .o 1 (.lt (some 21) (.ld false 1 (.tmp 20))),
    .o 2 (.lt (some 5) (.mov (.tmp 21))),
    .g (.keep [3, 5, 16, 17, 18])]) (.reg 2 [.o 0 (.lt (some 22) (.mov (.tmp 3))),
    .o 1 (.lt (some 23) (.mov (.tmp 3))),
    .o 2 (.lt (some 24) (.nilc (.tmp 23))),
    .o 3 (.lt (some 25) (.fad (.tmp 24) 1)),
    .o 4 (.lt (some 26) (.ld false 1 (.tmp 25))),
    .o 5 (.lt (some 27) (.mov (.tmp 5))),
    .o 6 (.calla [23, 24, 25] (some 28) (.func slices_Clone_Ldom_domain_dom_domain.id) [(.tmp 27)]),
    .o 7 (.bsl (some 29) 0 1 1 [.a (.slice none 0 0)] [(0, (.tmp 28))]),
    .o 8 (.app [] (some 30) 1 1 24 (.tmp 26) (.tmp 29)),
    .o 9 (.lt (some 31) (.nilc (.tmp 22))),
    .o 10 (.lt (some 32) (.fad (.tmp 31) 1)),
    .o 11 (.store [] 1 (.tmp 32) (.tmp 30)),
    .g (.keep [3, 16, 17, 18])]))) (.reg 0 [.o 0 (.lt (some 33) (.bin .add (.tmp 18) (.const (.int .i64 1)))),
    .o 1 (.lt (some 18) (.mov (.tmp 33))),
    .g (.keep [3, 16, 17, 18])])))
def dom_Store_Copy.ir : C := .seq (.reg 0 [.o 0 (.lt (some 2) (.mov (.const (.pointer none)))),
    .g (.keep [0])]) (.seq (.reg 1 [.o 0 (.lt (some 6) (.mov (.tmp 0))),
    .o 1 (.lt (some 7) (.nilc (.tmp 6))),
    .o 2 (.lt (some 8) (.fad (.tmp 7) 0)),
    .o 3 (.lt (some 9) (.ld false 1 (.tmp 8))),
    .o 4 (.callm (some 10) (.func slices_Clone_Ldom_domain_dom_domain.id) [(.tmp 9)]),
    .o 5 (.lt (some 11) (.build [.a (.slice none 0 0), .a (.slice none 0 0)] [(0, 1, (.tmp 10))])),
    .o 6 (.box (some 12) 0 2 (.tmp 11)),
    .o 7 (.lt (some 3) (.mov (.tmp 12))),
    .g (.keep [0, 3])]) (.seq (.seq (.reg 0 [.o 0 (.lt (some 13) (.mov (.tmp 0))),
    .o 1 (.lt (some 14) (.nilc (.tmp 13))),
    .o 2 (.lt (some 15) (.fad (.tmp 14) 1)),
    .o 3 (.lt (some 16) (.ld false 1 (.tmp 15))),
    .o 4 (.lt (some 17) (.lenSl (.tmp 16))),
    .o 5 (.lt (some 18) (.mov (.const (.int .i64 0)))),
    .g (.keep [3, 16, 17, 18])]) (.block 0 (.loop dom_Store_Copy.b0))) (.seq (.reg 0 [.o 0 (.lt (some 34) (.mov (.tmp 3))),
    .o 1 (.lt (some 2) (.mov (.tmp 34))),
    .g (.keep [2])]) (.ret))))
def dom_Store_Copy.rs : List Rs := [.sl 2]
theorem dom_Store_Copy.ok : isFn Try.prog dom_Store_Copy.id 35 dom_Store_Copy.ann dom_Store_Copy.ir dom_Store_Copy.rs := ⟨Try.f14, _, Try.func14, rfl, rfl, by kernel_rfl, by kernel_rfl⟩
-- (*hallmark/dom.Store).Mark
def dom_Store_Mark.ann : List (Nat × RA) := [(0, { gs := [], keep := some [0] }), (1, { gs := [], keep := some [0, 3] }), (2, { gs := [], keep := some [0, 3] }), (3, { gs := [], keep := some [0] }), (4, { gs := [], keep := some [2] })]
def dom_Store_Mark.ir : C := .seq (.reg 0 [.o 0 (.lt (some 2) (.mov (.const (.int .i64 0)))),
    .g (.keep [0])]) (.seq (.reg 1 [.o 0 (.lt (some 4) (.mov (.tmp 0))),
    .o 1 (.lt (some 5) (.nilc (.tmp 4))),
    .o 2 (.lt (some 6) (.fad (.tmp 5) 0)),
    .o 3 (.lt (some 7) (.ld false 1 (.tmp 6))),
    .o 4 (.lt (some 8) (.lenSl (.tmp 7))),
    .o 5 (.mks (some 9) 0 4 24 [.a (.int .i64 0), .a (.int .i64 0), .a (.int .u32 0), .a (.int .u32 0)] (.tmp 8)),
    .o 6 (.lt (some 3) (.mov (.tmp 9))),
    .g (.keep [0, 3])]) (.seq (.reg 0 [.o 0 (.lt (some 10) (.mov (.tmp 3))),
    .o 1 (.lt (some 11) (.mov (.tmp 0))),
    .o 2 (.lt (some 12) (.nilc (.tmp 11))),
    .o 3 (.lt (some 13) (.fad (.tmp 12) 0)),
    .o 4 (.lt (some 14) (.ld false 1 (.tmp 13))),
    .o 5 (.cpy (some 15) 4 (.tmp 10) (.tmp 14)),
    .g (.keep [0, 3])]) (.seq (.reg 2 [.o 0 (.lt (some 16) (.mov (.tmp 0))),
    .o 1 (.lt (some 17) (.mov (.tmp 0))),
    .o 2 (.lt (some 18) (.nilc (.tmp 17))),
    .o 3 (.lt (some 19) (.fad (.tmp 18) 1)),
    .o 4 (.lt (some 20) (.ld false 1 (.tmp 19))),
    .o 5 (.lt (some 21) (.mov (.tmp 3))),
    .o 6 (.bsl (some 22) 0 1 1 [.a (.slice none 0 0)] [(0, (.tmp 21))]),
    .o 7 (.app [] (some 23) 1 1 24 (.tmp 20) (.tmp 22)),
    .o 8 (.lt (some 24) (.nilc (.tmp 16))),
    .o 9 (.lt (some 25) (.fad (.tmp 24) 1)),
    .o 10 (.store [] 1 (.tmp 25) (.tmp 23)),
    .g (.keep [0])]) (.seq (.reg 0 [.o 0 (.lt (some 26) (.mov (.tmp 0))),
    .o 1 (.lt (some 27) (.nilc (.tmp 26))),
    .o 2 (.lt (some 28) (.fad (.tmp 27) 1)),
    .o 3 (.lt (some 29) (.ld false 1 (.tmp 28))),
    .o 4 (.lt (some 30) (.lenSl (.tmp 29))),
    .o 5 (.lt (some 31) (.bin .sub (.tmp 30) (.const (.int .i64 1)))),
    .o 6 (.lt (some 2) (.mov (.tmp 31))),
    .g (.keep [2])]) (.ret)))))
def dom_Store_Mark.rs : List Rs := [.sl 2]
theorem dom_Store_Mark.ok : isFn Try.prog dom_Store_Mark.id 32 dom_Store_Mark.ann dom_Store_Mark.ir dom_Store_Mark.rs := ⟨Try.f15, _, Try.func15, rfl, rfl, by kernel_rfl, by kernel_rfl⟩
-- (*hallmark/dom.Store).Back
def dom_Store_Back.ann : List (Nat × RA) := [(0, { gs := [], keep := some [0, 1] }), (1, { gs := [], keep := some [0, 1, 15] }), (2, { gs := [], keep := some [4] }), (3, { gs := [], keep := some [0, 1] }), (4, { gs := [], keep := some [] }), (5, { gs := [], keep := some [4] })]
def dom_Store_Back.ir : C := .seq (.reg 0 [.o 0 (.lt (some 4) (.mov (.const (.bool false)))),
    .g (.keep [0, 1])]) (.seq (.seq (.reg 0 [.o 0 (.lt (some 5) (.mov (.tmp 1))),
    .o 1 (.lt (some 6) (.bin .lss (.tmp 5) (.const (.int .i64 0)))),
    .o 2 (.lt (some 7) (.mov (.tmp 6))),
    .gd 3 7 false (some 8) (.lt (some 8) (.mov (.tmp 1))),
    .gd 4 7 false (some 9) (.lt (some 9) (.mov (.tmp 0))),
    .gd 5 7 false (some 10) (.lt (some 10) (.nilc (.tmp 9))),
    .gd 6 7 false (some 11) (.lt (some 11) (.fad (.tmp 10) 1)),
    .gd 7 7 false (some 12) (.lt (some 12) (.ld false 1 (.tmp 11))),
    .gd 8 7 false (some 13) (.lt (some 13) (.lenSl (.tmp 12))),
    .gd 9 7 false (some 14) (.lt (some 14) (.bin .geq (.tmp 8) (.tmp 13))),
    .o 10 (.lt (some 15) (.pick (.tmp 7) (.const (.bool true)) (.tmp 14))),
    .g (.keep [0, 1, 15])]) (.cond (.tmp 15) (.seq (.reg 0 [.o 0 (.lt (some 4) (.mov (.const (.bool false)))),
    .g (.keep [4])]) (.ret)) (.skip))) (.seq (.reg 0 [.o 0 (.lt (some 16) (.mov (.tmp 0))),
    .o 1 (.lt (some 17) (.mov (.tmp 0))),
    .o 2 (.lt (some 18) (.nilc (.tmp 17))),
    .o 3 (.lt (some 19) (.fad (.tmp 18) 1)),
    .o 4 (.lt (some 20) (.ld false 1 (.tmp 19))),
    .o 5 (.lt (some 21) (.mov (.tmp 1))),
    .o 6 (.lt (some 22) (.ixS 1 (.tmp 20) (.tmp 21))),
    .o 7 (.lt (some 23) (.ld false 1 (.tmp 22))),
    .o 8 (.lt (some 24) (.nilc (.tmp 16))),
    .o 9 (.lt (some 25) (.fad (.tmp 24) 0)),
    .o 10 (.store [] 1 (.tmp 25) (.tmp 23)),
    .g (.keep [0, 1])]) (.seq (.reg 0 [.o 0 (.lt (some 26) (.mov (.tmp 0))),
    .o 1 (.lt (some 27) (.mov (.tmp 0))),
    .o 2 (.lt (some 28) (.nilc (.tmp 27))),
    .o 3 (.lt (some 29) (.fad (.tmp 28) 1)),
    .o 4 (.lt (some 30) (.ld false 1 (.tmp 29))),
    .o 5 (.lt (some 31) (.mov (.tmp 1))),
    .o 6 (.lt (some 32) (.slSl 1 (.tmp 30) none (some (.tmp 31)))),
    .o 7 (.lt (some 33) (.nilc (.tmp 26))),
    .o 8 (.lt (some 34) (.fad (.tmp 33) 1)),
    .o 9 (.store [] 1 (.tmp 34) (.tmp 32)),
    .g (.keep [])]) (.seq (.reg 0 [.o 0 (.lt (some 4) (.mov (.const (.bool true)))),
    .g (.keep [4])]) (.ret)))))
def dom_Store_Back.rs : List Rs := [.sl 4]
theorem dom_Store_Back.ok : isFn Try.prog dom_Store_Back.id 35 dom_Store_Back.ann dom_Store_Back.ir dom_Store_Back.rs := ⟨Try.f16, _, Try.func16, rfl, rfl, by kernel_rfl, by kernel_rfl⟩
-- (*hallmark/dom.Store).Size
def dom_Store_Size.ann : List (Nat × RA) := [(0, { gs := [], keep := some [0, 1] }), (1, { gs := [], keep := some [0, 1, 8], aps := [(2, [1000000])] }), (2, { gs := [], keep := some [4] }), (3, { gs := [], keep := some [4], aps := [(7, [1000000])] })]
def dom_Store_Size.ir : C := .seq (.reg 0 [.o 0 (.lt (some 4) (.mov (.const (.int .i64 0)))),
    .g (.keep [0, 1])]) (.seq (.seq (.reg 0 [.o 0 (.lt (some 5) (.mov (.tmp 0))),
    .o 1 (.lt (some 6) (.mov (.tmp 1))),
    .o 2 (.callm (some 7) (.func dom_Store_is.id) [(.tmp 5), (.tmp 6)]),
    .o 3 (.lt (some 8) (.un .not (.tmp 7))),
    .g (.keep [0, 1, 8])]) (.cond (.tmp 8) (.seq (.reg 0 [.o 0 (.lt (some 4) (.mov (.const (.int .i64 0)))),
    .g (.keep [4])]) (.ret)) (.skip))) (.seq (.reg 0 [.o 0 (.lt (some 9) (.mov (.tmp 0))),
    .o 1 (.lt (some 10) (.nilc (.tmp 9))),
    .o 2 (.lt (some 11) (.fad (.tmp 10) 0)),
    .o 3 (.lt (some 12) (.ld false 1 (.tmp 11))),
    .o 4 (.lt (some 13) (.mov (.tmp 1))),
    .o 5 (.lt (some 14) (.ixS 4 (.tmp 12) (.tmp 13))),
    .o 6 (.lt (some 15) (.fad (.tmp 14) 2)),
    .o 7 (.callm (some 16) (.func dom_set_size.id) [(.tmp 15)]),
    .o 8 (.lt (some 4) (.mov (.tmp 16))),
    .g (.keep [4])]) (.ret)))
def dom_Store_Size.rs : List Rs := [.sl 4]
theorem dom_Store_Size.ok : isFn Try.prog dom_Store_Size.id 17 dom_Store_Size.ann dom_Store_Size.ir dom_Store_Size.rs := ⟨Try.f17, _, Try.func17, rfl, rfl, by kernel_rfl, by kernel_rfl⟩
-- (*hallmark/dom.Store).Cut
def dom_Store_Cut.ann : List (Nat × RA) := [(0, { gs := [], keep := some [0, 3] }), (1, { gs := [], keep := some [0, 3, 13], aps := [(3, [1000000])] }), (2, { gs := [], keep := some [4, 5] }), (3, { gs := [], keep := some [0, 3, 6], ord := [0, 1, 2, 3, 4, 5, 6, 7, 8, 9] }), (4, { gs := [], keep := some [0, 3, 6, 23, 24] }), (5, { gs := [], keep := some [0, 3, 6, 23, 24, 25] }), (6, { gs := [], keep := some [0, 3, 6, 7, 23, 24] }), (7, { gs := [], keep := some [0, 3, 6, 7, 23, 24, 32] }), (8, { gs := [], keep := some [0, 3, 6, 23, 24], aps := [(2, [1000000])] }), (9, { gs := [], keep := some [0, 3, 6, 23, 24] }), (10, { gs := [], keep := some [0, 3, 6, 40] }), (11, { gs := [], keep := some [4, 5] }), (12, { gs := [], keep := some [0, 3, 6, 8], ord := [0, 1, 2, 3, 4, 5, 6, 7, 8, 9, 10, 11, 12] }), (13, { gs := [], keep := some [8], ord := [0, 1, 2, 3, 4, 5, 6, 7, 8] }), (14, { gs := [], keep := some [4, 5] })]
def dom_Store_Cut.b0 : C := .seq (.reg 0 [.o 0 (.lt (some 25) (.bin .lss (.tmp 24) (.tmp 23))),
    .g (.keep [0, 3, 6, 23, 24, 25])]) (.seq (.cond (.tmp 25) (.skip) (.exit 0)) (.seq (.block 1 (.seq (.reg 0 [.o 0 (.lt (some 26) (.mov (.tmp 24))),
    .o 1 (.lt (some 7) (.mov (.tmp 26))),
    .g (.keep [0, 3, 6, 7, 23, 24])]) (.seq (.reg 0 [.o 0 (.lt (some 27) (.ld true 3 (.tmp 3))),
    .o 1 (.lt (some 28) (.fad (.tmp 6) 0)),
    .o 2 (.lt (some 29) (.ld false 1 (.tmp 28))),
    .o 3 (.lt (some 30) (.mov (.tmp 7))),
    .o 4 (.lt (some 31) (.bin .add (.tmp 29) (.tmp 30))),
    .o 5 (.call (some 32) dom_goes.id [(.tmp 27), (.tmp 31)]),
    .g (.keep [0, 3, 6, 7, 23, 24, 32])]) (.cond (.tmp 32) (.reg 0 [.o 0 (.lt (some 33) (.fad (.tmp 6) 2)),
    .o 1 (.lt (some 34) (.mov (.tmp 7))),
    .o 2 (.callm (some 35) (.func dom_set_drop.id) [(.tmp 33), (.tmp 34)]),
    .g (.keep [0, 3, 6, 23, 24])]) (.skip))))) (.reg 0 [.o 0 (.lt (some 36) (.bin .add (.tmp 24) (.const (.int .i64 1)))),
    .o 1 (.lt (some 24) (.mov (.tmp 36))),
    .g (.keep [0, 3, 6, 23, 24])])))
def dom_Store_Cut.ir : C := .seq (.reg 1 [.o 0 (.box (some 3) 0 3 (.tmp 1)),
    .o 1 (.lt (some 4) (.mov (.const (.bool false)))),
    .o 2 (.lt (some 5) (.mov (.const (.bool false)))),
    .g (.keep [0, 3])]) (.seq (.seq (.reg 0 [.o 0 (.lt (some 9) (.mov (.tmp 0))),
    .o 1 (.lt (some 10) (.fad (.tmp 3) 1)),
    .o 2 (.lt (some 11) (.ld false 1 (.tmp 10))),
    .o 3 (.callm (some 12) (.func dom_Store_is.id) [(.tmp 9), (.tmp 11)]),
    .o 4 (.lt (some 13) (.un .not (.tmp 12))),
    .g (.keep [0, 3, 13])]) (.cond (.tmp 13) (.seq (.reg 0 [.o 0 (.lt (some 4) (.mov (.const (.bool false)))),
    .o 1 (.lt (some 5) (.mov (.const (.bool true)))),
    .g (.keep [4, 5])]) (.ret)) (.skip))) (.seq (.reg 1 [.o 0 (.lt (some 14) (.mov (.tmp 0))),
    .o 1 (.lt (some 15) (.nilc (.tmp 14))),
    .o 2 (.lt (some 16) (.fad (.tmp 15) 0)),
    .o 3 (.lt (some 17) (.ld false 1 (.tmp 16))),
    .o 4 (.lt (some 18) (.fad (.tmp 3) 1)),
    .o 5 (.lt (some 19) (.ld false 1 (.tmp 18))),
    .o 6 (.lt (some 20) (.ixS 4 (.tmp 17) (.tmp 19))),
    .o 7 (.lt (some 21) (.ld true 4 (.tmp 20))),
    .o 8 (.alloc (some 6) 0 4 [.a (.int .i64 0), .a (.int .i64 0), .a (.int .u32 0), .a (.int .u32 0)]),
    .o 9 (.store [] 4 (.tmp 6) (.tmp 21)),
    .g (.keep [0, 3, 6])]) (.seq (.seq (.reg 0 [.o 0 (.lt (some 22) (.fad (.tmp 6) 1)),
    .o 1 (.lt (some 23) (.ld false 1 (.tmp 22))),
    .o 2 (.lt (some 24) (.mov (.const (.int .i64 0)))),
    .g (.keep [0, 3, 6, 23, 24])]) (.block 0 (.loop dom_Store_Cut.b0))) (.seq (.seq (.reg 0 [.o 0 (.lt (some 37) (.fad (.tmp 6) 2)),
    .o 1 (.lt (some 38) (.ld true 2 (.tmp 37))),
    .o 2 (.lt (some 39) (.build [.a (.int .u32 0), .a (.int .u32 0)] [])),
    .o 3 (.lt (some 40) (.eqD false [(0, 0), (1, 0)] (.tmp 38) (.tmp 39))),
    .g (.keep [0, 3, 6, 40])]) (.cond (.tmp 40) (.seq (.reg 0 [.o 0 (.lt (some 4) (.mov (.const (.bool false)))),
    .o 1 (.lt (some 5) (.mov (.const (.bool false)))),
    .g (.keep [4, 5])]) (.ret)) (.skip))) (.seq (.reg 0 [.o 0 (.lt (some 41) (.fad (.tmp 6) 2)),
    .o 1 (.lt (some 42) (.ld true 2 (.tmp 41))),
    .o 2 (.lt (some 43) (.mov (.tmp 0))),
    .o 3 (.lt (some 44) (.nilc (.tmp 43))),
    .o 4 (.lt (some 45) (.fad (.tmp 44) 0)),
    .o 5 (.lt (some 46) (.ld false 1 (.tmp 45))),
    .o 6 (.lt (some 47) (.fad (.tmp 3) 1)),
    .o 7 (.lt (some 48) (.ld false 1 (.tmp 47))),
    .o 8 (.lt (some 49) (.ixS 4 (.tmp 46) (.tmp 48))),
    .o 9 (.lt (some 50) (.fad (.tmp 49) 2)),
    .o 10 (.lt (some 51) (.ld true 2 (.tmp 50))),
    .o 11 (.lt (some 52) (.eqD true [(0, 0), (1, 0)] (.tmp 42) (.tmp 51))),
    .o 12 (.lt (some 8) (.mov (.tmp 52))),
    .g (.keep [0, 3, 6, 8])]) (.seq (.reg 0 [.o 0 (.lt (some 53) (.mov (.tmp 0))),
    .o 1 (.lt (some 54) (.nilc (.tmp 53))),
    .o 2 (.lt (some 55) (.fad (.tmp 54) 0)),
    .o 3 (.lt (some 56) (.ld false 1 (.tmp 55))),
    .o 4 (.lt (some 57) (.fad (.tmp 3) 1)),
    .o 5 (.lt (some 58) (.ld false 1 (.tmp 57))),
    .o 6 (.lt (some 59) (.ld true 4 (.tmp 6))),
    .o 7 (.lt (some 60) (.ixS 4 (.tmp 56) (.tmp 58))),
    .o 8 (.store [] 4 (.tmp 60) (.tmp 59)),
    .g (.keep [8])]) (.seq (.reg 0 [.o 0 (.lt (some 61) (.mov (.tmp 8))),
    .o 1 (.lt (some 4) (.mov (.tmp 61))),
    .o 2 (.lt (some 5) (.mov (.const (.bool true)))),
    .g (.keep [4, 5])]) (.ret))))))))
def dom_Store_Cut.rs : List Rs := [.sl 4, .sl 5]
theorem dom_Store_Cut.ok : isFn Try.prog dom_Store_Cut.id 62 dom_Store_Cut.ann dom_Store_Cut.ir dom_Store_Cut.rs := ⟨Try.f18, _, Try.func18, rfl, rfl, by kernel_rfl, by kernel_rfl⟩
-- hallmark/hallmarklaw11.sameInts
def hallmarklaw11_sameInts.ann : List (Nat × RA) := [(0, { gs := [], keep := some [0, 1] }), (1, { gs := [], keep := some [0, 1, 10] }), (2, { gs := [], keep := some [4] }), (3, { gs := [], keep := some [0, 1, 5] }), (4, { gs := [], keep := some [0, 1, 5, 14] }), (5, { gs := [], keep := some [0, 1, 5] }), (6, { gs := [], keep := some [0, 1, 5, 25], ord := [0, 1, 2, 3, 4, 5, 6, 7, 8] }), (7, { gs := [], keep := some [4] }), (8, { gs := [], keep := some [4] })]
def hallmarklaw11_sameInts.b0 : C := .seq (.seq (.reg 0 [.o 0 (.lt (some 11) (.mov (.tmp 5))),
    .o 1 (.lt (some 12) (.mov (.tmp 0))),
    .o 2 (.lt (some 13) (.lenSl (.tmp 12))),
    .o 3 (.lt (some 14) (.bin .lss (.tmp 11) (.tmp 13))),
    .g (.keep [0, 1, 5, 14])]) (.cond (.tmp 14) (.skip) (.exit 0))) (.seq (.block 1 (.seq (.reg 0 [.o 0 (.lt (some 17) (.mov (.tmp 0))),
    .o 1 (.lt (some 18) (.mov (.tmp 5))),
    .o 2 (.lt (some 19) (.ixS 1 (.tmp 17) (.tmp 18))),
    .o 3 (.lt (some 20) (.ld false 1 (.tmp 19))),
    .o 4 (.lt (some 21) (.mov (.tmp 1))),
    .o 5 (.lt (some 22) (.mov (.tmp 5))),
    .o 6 (.lt (some 23) (.ixS 1 (.tmp 21) (.tmp 22))),
    .o 7 (.lt (some 24) (.ld false 1 (.tmp 23))),
    .o 8 (.lt (some 25) (.bin .neq (.tmp 20) (.tmp 24))),
    .g (.keep [0, 1, 5, 25])]) (.cond (.tmp 25) (.seq (.reg 0 [.o 0 (.lt (some 4) (.mov (.const (.bool false)))),
    .g (.keep [4])]) (.ret)) (.skip)))) (.reg 0 [.o 0 (.lt (some 15) (.mov (.tmp 5))),
    .o 1 (.lt (some 16) (.bin .add (.tmp 15) (.const (.int .i64 1)))),
    .o 2 (.lt (some 5) (.mov (.tmp 16))),
    .g (.keep [0, 1, 5])]))
def hallmarklaw11_sameInts.ir : C := .seq (.reg 0 [.o 0 (.lt (some 4) (.mov (.const (.bool false)))),
    .g (.keep [0, 1])]) (.seq (.seq (.reg 0 [.o 0 (.lt (some 6) (.mov (.tmp 0))),
    .o 1 (.lt (some 7) (.lenSl (.tmp 6))),
    .o 2 (.lt (some 8) (.mov (.tmp 1))),
    .o 3 (.lt (some 9) (.lenSl (.tmp 8))),
    .o 4 (.lt (some 10) (.bin .neq (.tmp 7) (.tmp 9))),
    .g (.keep [0, 1, 10])]) (.cond (.tmp 10) (.seq (.reg 0 [.o 0 (.lt (some 4) (.mov (.const (.bool false)))),
    .g (.keep [4])]) (.ret)) (.skip))) (.seq (.seq (.reg 0 [.o 0 (.lt (some 5) (.mov (.const (.int .i64 0)))),
    .g (.keep [0, 1, 5])]) (.block 0 (.loop hallmarklaw11_sameInts.b0))) (.seq (.reg 0 [.o 0 (.lt (some 4) (.mov (.const (.bool true)))),
    .g (.keep [4])]) (.ret))))
def hallmarklaw11_sameInts.rs : List Rs := [.sl 4]
theorem hallmarklaw11_sameInts.ok : isFn Try.prog hallmarklaw11_sameInts.id 26 hallmarklaw11_sameInts.ann hallmarklaw11_sameInts.ir hallmarklaw11_sameInts.rs := ⟨Try.f19, _, Try.func19, rfl, rfl, by kernel_rfl, by kernel_rfl⟩
-- (*hallmark/dom.Store).Values
def dom_Store_Values.ann : List (Nat × RA) := [(0, { gs := [], keep := some [0, 1] }), (1, { gs := [], keep := some [0, 1, 11], aps := [(2, [1000000])] }), (2, { gs := [], keep := some [4] }), (3, { gs := [], keep := some [0, 1, 5] }), (4, { gs := [], keep := some [5, 6] }), (5, { gs := [], keep := some [5, 6, 20, 21] }), (6, { gs := [], keep := some [5, 6, 20, 21, 22] }), (7, { gs := [], keep := some [5, 6, 7, 20, 21] }), (8, { gs := [], keep := some [5, 6, 7, 20, 21, 26], aps := [(2, [1000000])] }), (9, { gs := [], keep := some [5, 6, 20, 21], aps := [(5, [1000004])] }), (10, { gs := [], keep := some [5, 6, 20, 21] }), (11, { gs := [(0, [.frz 5, .nilv 5 1])], keep := some [4] })]
def dom_Store_Values.b0 : C := .seq (.reg 0 [.o 0 (.lt (some 22) (.bin .lss (.tmp 21) (.tmp 20))),
    .g (.keep [5, 6, 20, 21, 22])]) (.seq (.cond (.tmp 22) (.skip) (.exit 0)) (.seq (.block 1 (.seq (.reg 0 [.o 0 (.lt (some 23) (.mov (.tmp 21))),
    .o 1 (.lt (some 7) (.mov (.tmp 23))),
    .g (.keep [5, 6, 7, 20, 21])]) (.seq (.reg 0 [.o 0 (.lt (some 24) (.fad (.tmp 6) 2)),
    .o 1 (.lt (some 25) (.mov (.tmp 7))),
    .o 2 (.callm (some 26) (.func dom_set_has.id) [(.tmp 24), (.tmp 25)]),
    .g (.keep [5, 6, 7, 20, 21, 26])]) (.cond (.tmp 26) (.reg 2 [.o 0 (.lt (some 27) (.mov (.tmp 5))),
    .o 1 (.lt (some 28) (.fad (.tmp 6) 0)),
    .o 2 (.lt (some 29) (.ld false 1 (.tmp 28))),
    .o 3 (.lt (some 30) (.mov (.tmp 7))),
    .o 4 (.lt (some 31) (.bin .add (.tmp 29) (.tmp 30))),
    .o 5 (.bsv (some 32) 1 1 [.a (.int .i64 0)] [(0, (.tmp 31))]),
    .o 6 (.app [] (some 33) 1 1 8 (.tmp 27) (.tmp 32)),
    .o 7 (.lt (some 5) (.mov (.tmp 33))),
    .g (.keep [5, 6, 20, 21])]) (.skip))))) (.reg 0 [.o 0 (.lt (some 34) (.bin .add (.tmp 21) (.const (.int .i64 1)))),
    .o 1 (.lt (some 21) (.mov (.tmp 34))),
    .g (.keep [5, 6, 20, 21])])))
def dom_Store_Values.ir : C := .seq (.reg 0 [.o 0 (.lt (some 4) (.mov (.const (.slice none 0 0)))),
    .g (.keep [0, 1])]) (.seq (.seq (.reg 0 [.o 0 (.lt (some 8) (.mov (.tmp 0))),
    .o 1 (.lt (some 9) (.mov (.tmp 1))),
    .o 2 (.callm (some 10) (.func dom_Store_is.id) [(.tmp 8), (.tmp 9)]),
    .o 3 (.lt (some 11) (.un .not (.tmp 10))),
    .g (.keep [0, 1, 11])]) (.cond (.tmp 11) (.seq (.reg 0 [.o 0 (.lt (some 4) (.mov (.const (.slice none 0 0)))),
    .g (.keep [4])]) (.ret)) (.skip))) (.seq (.reg 0 [.o 0 (.lt (some 5) (.mov (.const (.slice none 0 0)))),
    .g (.keep [0, 1, 5])]) (.seq (.reg 1 [.o 0 (.lt (some 12) (.mov (.tmp 0))),
    .o 1 (.lt (some 13) (.nilc (.tmp 12))),
    .o 2 (.lt (some 14) (.fad (.tmp 13) 0)),
    .o 3 (.lt (some 15) (.ld false 1 (.tmp 14))),
    .o 4 (.lt (some 16) (.mov (.tmp 1))),
    .o 5 (.lt (some 17) (.ixS 4 (.tmp 15) (.tmp 16))),
    .o 6 (.lt (some 18) (.ld true 4 (.tmp 17))),
    .o 7 (.alloc (some 6) 0 4 [.a (.int .i64 0), .a (.int .i64 0), .a (.int .u32 0), .a (.int .u32 0)]),
    .o 8 (.store [] 4 (.tmp 6) (.tmp 18)),
    .g (.keep [5, 6])]) (.seq (.seq (.reg 0 [.o 0 (.lt (some 19) (.fad (.tmp 6) 1)),
    .o 1 (.lt (some 20) (.ld false 1 (.tmp 19))),
    .o 2 (.lt (some 21) (.mov (.const (.int .i64 0)))),
    .g (.keep [5, 6, 20, 21])]) (.block 0 (.loop dom_Store_Values.b0))) (.seq (.reg 0 [.g (.frz 5),
    .g (.nilv 5 1),
    .o 0 (.lt (some 35) (.mov (.tmp 5))),
    .o 1 (.lt (some 4) (.mov (.tmp 35))),
    .g (.keep [4])]) (.ret))))))
def dom_Store_Values.rs : List Rs := [.sl 4]
theorem dom_Store_Values.ok : isFn Try.prog dom_Store_Values.id 36 dom_Store_Values.ann dom_Store_Values.ir dom_Store_Values.rs := ⟨Try.f20, _, Try.func20, rfl, rfl, by kernel_rfl, by kernel_rfl⟩
-- (*hallmark/dom.Store).Hi
def dom_Store_Hi.ann : List (Nat × RA) := [(0, { gs := [], keep := some [0, 1] }), (1, { gs := [], keep := some [0, 1, 9], aps := [(2, [1000000])] }), (2, { gs := [], keep := some [4] }), (3, { gs := [], keep := some [5], aps := [(2, [1000000])] }), (4, { gs := [], keep := some [4] })]
def dom_Store_Hi.ir : C := .seq (.reg 0 [.o 0 (.lt (some 4) (.mov (.const (.int .i64 0)))),
    .g (.keep [0, 1])]) (.seq (.seq (.reg 0 [.o 0 (.lt (some 6) (.mov (.tmp 0))),
    .o 1 (.lt (some 7) (.mov (.tmp 1))),
    .o 2 (.callm (some 8) (.func dom_Store_is.id) [(.tmp 6), (.tmp 7)]),
    .o 3 (.lt (some 9) (.un .not (.tmp 8))),
    .g (.keep [0, 1, 9])]) (.cond (.tmp 9) (.seq (.reg 0 [.o 0 (.lt (some 4) (.mov (.const (.int .i64 0)))),
    .g (.keep [4])]) (.ret)) (.skip))) (.seq (.reg 0 [.o 0 (.lt (some 10) (.mov (.tmp 0))),
    .o 1 (.lt (some 11) (.mov (.tmp 1))),
    .o 2 (.callm (some 12) (.func dom_Store_Values.id) [(.tmp 10), (.tmp 11)]),
    .o 3 (.lt (some 5) (.mov (.tmp 12))),
    .g (.keep [5])]) (.seq (.reg 0 [.o 0 (.lt (some 13) (.mov (.tmp 5))),
    .o 1 (.lt (some 14) (.mov (.tmp 5))),
    .o 2 (.lt (some 15) (.lenSl (.tmp 14))),
    .o 3 (.lt (some 16) (.bin .sub (.tmp 15) (.const (.int .i64 1)))),
    .o 4 (.lt (some 17) (.ixS 1 (.tmp 13) (.tmp 16))),
    .o 5 (.lt (some 18) (.ld false 1 (.tmp 17))),
    .o 6 (.lt (some 4) (.mov (.tmp 18))),
    .g (.keep [4])]) (.ret))))
def dom_Store_Hi.rs : List Rs := [.sl 4]
theorem dom_Store_Hi.ok : isFn Try.prog dom_Store_Hi.id 19 dom_Store_Hi.ann dom_Store_Hi.ir dom_Store_Hi.rs := ⟨Try.f21, _, Try.func21, rfl, rfl, by kernel_rfl, by kernel_rfl⟩
-- (*hallmark/dom.Store).Lo
def dom_Store_Lo.ann : List (Nat × RA) := [(0, { gs := [], keep := some [0, 1] }), (1, { gs := [], keep := some [0, 1, 8], aps := [(2, [1000000])] }), (2, { gs := [], keep := some [4] }), (3, { gs := [], keep := some [4], aps := [(2, [1000000])] })]
def dom_Store_Lo.ir : C := .seq (.reg 0 [.o 0 (.lt (some 4) (.mov (.const (.int .i64 0)))),
    .g (.keep [0, 1])]) (.seq (.seq (.reg 0 [.o 0 (.lt (some 5) (.mov (.tmp 0))),
    .o 1 (.lt (some 6) (.mov (.tmp 1))),
    .o 2 (.callm (some 7) (.func dom_Store_is.id) [(.tmp 5), (.tmp 6)]),
    .o 3 (.lt (some 8) (.un .not (.tmp 7))),
    .g (.keep [0, 1, 8])]) (.cond (.tmp 8) (.seq (.reg 0 [.o 0 (.lt (some 4) (.mov (.const (.int .i64 0)))),
    .g (.keep [4])]) (.ret)) (.skip))) (.seq (.reg 0 [.o 0 (.lt (some 9) (.mov (.tmp 0))),
    .o 1 (.lt (some 10) (.mov (.tmp 1))),
    .o 2 (.callm (some 11) (.func dom_Store_Values.id) [(.tmp 9), (.tmp 10)]),
    .o 3 (.lt (some 12) (.ixS 1 (.tmp 11) (.const (.int .i64 0)))),
    .o 4 (.lt (some 13) (.ld false 1 (.tmp 12))),
    .o 5 (.lt (some 4) (.mov (.tmp 13))),
    .g (.keep [4])]) (.ret)))
def dom_Store_Lo.rs : List Rs := [.sl 4]
theorem dom_Store_Lo.ok : isFn Try.prog dom_Store_Lo.id 14 dom_Store_Lo.ann dom_Store_Lo.ir dom_Store_Lo.rs := ⟨Try.f22, _, Try.func22, rfl, rfl, by kernel_rfl, by kernel_rfl⟩
-- (*hallmark/dom.Store).Open
def dom_Store_Open.ann : List (Nat × RA) := [(0, { gs := [], keep := some [0] }), (1, { gs := [], keep := some [0, 3] }), (2, { gs := [], keep := some [0, 3, 9, 10] }), (3, { gs := [], keep := some [0, 3, 9, 10, 11] }), (4, { gs := [], keep := some [0, 3, 4, 9, 10] }), (5, { gs := [], keep := some [0, 3, 4, 9, 10, 16], aps := [(2, [1000000])] }), (6, { gs := [], keep := some [0, 3, 9, 10], aps := [(2, [1000004])] }), (7, { gs := [], keep := some [0, 3, 9, 10] }), (8, { gs := [(0, [.frz 3, .nilv 3 1])], keep := some [2] })]
def dom_Store_Open.b0 : C := .seq (.reg 0 [.o 0 (.lt (some 11) (.bin .lss (.tmp 10) (.tmp 9))),
    .g (.keep [0, 3, 9, 10, 11])]) (.seq (.cond (.tmp 11) (.skip) (.exit 0)) (.seq (.block 1 (.seq (.reg 0 [.o 0 (.lt (some 12) (.mov (.tmp 10))),
    .o 1 (.lt (some 4) (.mov (.tmp 12))),
    .g (.keep [0, 3, 4, 9, 10])]) (.seq (.reg 0 [.o 0 (.lt (some 13) (.mov (.tmp 0))),
    .o 1 (.lt (some 14) (.mov (.tmp 4))),
    .o 2 (.callm (some 15) (.func dom_Store_Size.id) [(.tmp 13), (.tmp 14)]),
    .o 3 (.lt (some 16) (.bin .gtr (.tmp 15) (.const (.int .i64 1)))),
    .g (.keep [0, 3, 4, 9, 10, 16])]) (.cond (.tmp 16) (.reg 2 [.o 0 (.lt (some 17) (.mov (.tmp 3))),
    .o 1 (.lt (some 18) (.mov (.tmp 4))),
    .o 2 (.bsv (some 19) 1 1 [.a (.int .i64 0)] [(0, (.tmp 18))]),
    .o 3 (.app [] (some 20) 1 1 8 (.tmp 17) (.tmp 19)),
    .o 4 (.lt (some 3) (.mov (.tmp 20))),
    .g (.keep [0, 3, 9, 10])]) (.skip))))) (.reg 0 [.o 0 (.lt (some 21) (.bin .add (.tmp 10) (.const (.int .i64 1)))),
    .o 1 (.lt (some 10) (.mov (.tmp 21))),
    .g (.keep [0, 3, 9, 10])])))
def dom_Store_Open.ir : C := .seq (.reg 0 [.o 0 (.lt (some 2) (.mov (.const (.slice none 0 0)))),
    .g (.keep [0])]) (.seq (.reg 0 [.o 0 (.lt (some 3) (.mov (.const (.slice none 0 0)))),
    .g (.keep [0, 3])]) (.seq (.seq (.reg 0 [.o 0 (.lt (some 5) (.mov (.tmp 0))),
    .o 1 (.lt (some 6) (.nilc (.tmp 5))),
    .o 2 (.lt (some 7) (.fad (.tmp 6) 0)),
    .o 3 (.lt (some 8) (.ld false 1 (.tmp 7))),
    .o 4 (.lt (some 9) (.lenSl (.tmp 8))),
    .o 5 (.lt (some 10) (.mov (.const (.int .i64 0)))),
    .g (.keep [0, 3, 9, 10])]) (.block 0 (.loop dom_Store_Open.b0))) (.seq (.reg 0 [.g (.frz 3),
    .g (.nilv 3 1),
    .o 0 (.lt (some 22) (.mov (.tmp 3))),
    .o 1 (.lt (some 2) (.mov (.tmp 22))),
    .g (.keep [2])]) (.ret))))
def dom_Store_Open.rs : List Rs := [.sl 2]
theorem dom_Store_Open.ok : isFn Try.prog dom_Store_Open.id 23 dom_Store_Open.ann dom_Store_Open.ir dom_Store_Open.rs := ⟨Try.f23, _, Try.func23, rfl, rfl, by kernel_rfl, by kernel_rfl⟩
-- hallmark/hallmarklaw11.light
def hallmarklaw11_light.ann : List (Nat × RA) := [(0, { gs := [], keep := some [1] }), (1, { gs := [], keep := some [1, 3] }), (2, { gs := [], keep := some [1, 3, 4] }), (3, { gs := [], keep := some [1, 3, 4, 14] }), (4, { gs := [], keep := some [1, 3, 4] }), (5, { gs := [], keep := some [1, 3, 4], ord := [0, 1, 2, 3, 4, 5, 6, 7, 8, 9, 10, 11, 12, 13, 14, 15, 16, 17, 18, 19, 20, 21, 22, 23, 24, 25] }), (6, { gs := [], keep := some [1, 3, 5] }), (7, { gs := [], keep := some [1, 3, 5, 50] }), (8, { gs := [], keep := some [1, 3, 5] }), (9, { gs := [], keep := some [1, 3, 5] }), (10, { gs := [], keep := some [2] })]
def hallmarklaw11_light.b1 : C := .seq (.seq (.reg 0 [.o 0 (.lt (some 42) (.mov (.tmp 5))),
    .o 1 (.lt (some 43) (.fad (.tmp 1) 0)),
    .o 2 (.lt (some 44) (.ld false 1 (.tmp 43))),
    .o 3 (.lt (some 45) (.lenSl (.tmp 44))),
    .o 4 (.lt (some 46) (.bin .lss (.tmp 42) (.tmp 45))),
    .o 5 (.lt (some 47) (.mov (.tmp 46))),
    .gd 6 47 true (some 48) (.lt (some 48) (.mov (.tmp 3))),
    .gd 7 47 true (some 49) (.lt (some 49) (.bin .leq (.tmp 48) (.const (.int .i64 65536)))),
    .o 8 (.lt (some 50) (.pick (.tmp 47) (.tmp 49) (.const (.bool false)))),
    .g (.keep [1, 3, 5, 50])]) (.cond (.tmp 50) (.skip) (.exit 2))) (.seq (.block 3 (.reg 0 [.o 0 (.lt (some 53) (.mov (.tmp 3))),
    .o 1 (.lt (some 54) (.fad (.tmp 1) 0)),
    .o 2 (.lt (some 55) (.ld false 1 (.tmp 54))),
    .o 3 (.lt (some 56) (.mov (.tmp 5))),
    .o 4 (.lt (some 57) (.ixS 3 (.tmp 55) (.tmp 56))),
    .o 5 (.lt (some 58) (.fad (.tmp 57) 0)),
    .o 6 (.lt (some 59) (.ld false 1 (.tmp 58))),
    .o 7 (.lt (some 60) (.lenStr (.tmp 59))),
    .o 8 (.lt (some 61) (.bin .add (.tmp 53) (.tmp 60))),
    .o 9 (.lt (some 3) (.mov (.tmp 61))),
    .g (.keep [1, 3, 5])])) (.reg 0 [.o 0 (.lt (some 51) (.mov (.tmp 5))),
    .o 1 (.lt (some 52) (.bin .add (.tmp 51) (.const (.int .i64 1)))),
    .o 2 (.lt (some 5) (.mov (.tmp 52))),
    .g (.keep [1, 3, 5])]))
def hallmarklaw11_light.b0 : C := .seq (.seq (.reg 0 [.o 0 (.lt (some 6) (.mov (.tmp 4))),
    .o 1 (.lt (some 7) (.fad (.tmp 1) 1)),
    .o 2 (.lt (some 8) (.ld false 1 (.tmp 7))),
    .o 3 (.lt (some 9) (.lenSl (.tmp 8))),
    .o 4 (.lt (some 10) (.bin .lss (.tmp 6) (.tmp 9))),
    .o 5 (.lt (some 11) (.mov (.tmp 10))),
    .gd 6 11 true (some 12) (.lt (some 12) (.mov (.tmp 3))),
    .gd 7 11 true (some 13) (.lt (some 13) (.bin .leq (.tmp 12) (.const (.int .i64 65536)))),
    .o 8 (.lt (some 14) (.pick (.tmp 11) (.tmp 13) (.const (.bool false)))),
    .g (.keep [1, 3, 4, 14])]) (.cond (.tmp 14) (.skip) (.exit 0))) (.seq (.block 1 (.reg 0 [.o 0 (.lt (some 17) (.mov (.tmp 3))),
    .o 1 (.lt (some 18) (.fad (.tmp 1) 1)),
    .o 2 (.lt (some 19) (.ld false 1 (.tmp 18))),
    .o 3 (.lt (some 20) (.mov (.tmp 4))),
    .o 4 (.lt (some 21) (.ixS 10 (.tmp 19) (.tmp 20))),
    .o 5 (.lt (some 22) (.fad (.tmp 21) 2)),
    .o 6 (.lt (some 23) (.ld false 1 (.tmp 22))),
    .o 7 (.lt (some 24) (.lenSl (.tmp 23))),
    .o 8 (.lt (some 25) (.bin .add (.tmp 17) (.tmp 24))),
    .o 9 (.lt (some 26) (.fad (.tmp 1) 1)),
    .o 10 (.lt (some 27) (.ld false 1 (.tmp 26))),
    .o 11 (.lt (some 28) (.mov (.tmp 4))),
    .o 12 (.lt (some 29) (.ixS 10 (.tmp 27) (.tmp 28))),
    .o 13 (.lt (some 30) (.fad (.tmp 29) 7)),
    .o 14 (.lt (some 31) (.ld false 1 (.tmp 30))),
    .o 15 (.lt (some 32) (.lenSl (.tmp 31))),
    .o 16 (.lt (some 33) (.bin .add (.tmp 25) (.tmp 32))),
    .o 17 (.lt (some 34) (.fad (.tmp 1) 1)),
    .o 18 (.lt (some 35) (.ld false 1 (.tmp 34))),
    .o 19 (.lt (some 36) (.mov (.tmp 4))),
    .o 20 (.lt (some 37) (.ixS 10 (.tmp 35) (.tmp 36))),
    .o 21 (.lt (some 38) (.fad (.tmp 37) 8)),
    .o 22 (.lt (some 39) (.ld false 1 (.tmp 38))),
    .o 23 (.lt (some 40) (.lenSl (.tmp 39))),
    .o 24 (.lt (some 41) (.bin .add (.tmp 33) (.tmp 40))),
    .o 25 (.lt (some 3) (.mov (.tmp 41))),
    .g (.keep [1, 3, 4])])) (.reg 0 [.o 0 (.lt (some 15) (.mov (.tmp 4))),
    .o 1 (.lt (some 16) (.bin .add (.tmp 15) (.const (.int .i64 1)))),
    .o 2 (.lt (some 4) (.mov (.tmp 16))),
    .g (.keep [1, 3, 4])]))
def hallmarklaw11_light.ir : C := .seq (.reg 1 [.o 0 (.box (some 1) 0 4 (.tmp 0)),
    .o 1 (.lt (some 2) (.mov (.const (.bool false)))),
    .g (.keep [1])]) (.seq (.reg 0 [.o 0 (.lt (some 3) (.mov (.const (.int .i64 0)))),
    .g (.keep [1, 3])]) (.seq (.seq (.reg 0 [.o 0 (.lt (some 4) (.mov (.const (.int .i64 0)))),
    .g (.keep [1, 3, 4])]) (.block 0 (.loop hallmarklaw11_light.b0))) (.seq (.seq (.reg 0 [.o 0 (.lt (some 5) (.mov (.const (.int .i64 0)))),
    .g (.keep [1, 3, 5])]) (.block 2 (.loop hallmarklaw11_light.b1))) (.seq (.reg 0 [.o 0 (.lt (some 62) (.mov (.tmp 3))),
    .o 1 (.lt (some 63) (.bin .leq (.tmp 62) (.const (.int .i64 65536)))),
    .o 2 (.lt (some 2) (.mov (.tmp 63))),
    .g (.keep [2])]) (.ret)))))
def hallmarklaw11_light.rs : List Rs := [.sl 2]
theorem hallmarklaw11_light.ok : isFn Try.prog hallmarklaw11_light.id 64 hallmarklaw11_light.ann hallmarklaw11_light.ir hallmarklaw11_light.rs := ⟨Try.f24, _, Try.func24, rfl, rfl, by kernel_rfl, by kernel_rfl⟩
-- hallmark/model.Check
def model_Check.ann : List (Nat × RA) := [(0, { gs := [], keep := some [1] }), (1, { gs := [], keep := some [1, 19] }), (2, { gs := [], keep := some [2, 3] }), (3, { gs := [], keep := some [1, 22, 23] }), (4, { gs := [], keep := some [1, 22, 23, 24] }), (5, { gs := [], keep := some [1, 4, 22, 23] }), (6, { gs := [], keep := some [1, 4, 5, 22, 23] }), (7, { gs := [], keep := some [1, 4, 5, 22, 23, 31] }), (8, { gs := [], keep := some [2, 3] }), (9, { gs := [], keep := some [1, 22, 23] }), (10, { gs := [], keep := some [1, 38] }), (11, { gs := [], keep := some [2, 3] }), (12, { gs := [], keep := some [1, 43, 44, 45] }), (13, { gs := [], keep := some [1, 43, 44, 45, 46] }), (14, { gs := [], keep := some [1, 6, 7, 43, 44, 45] }), (15, { gs := [], keep := some [1, 6, 8, 43, 44, 45] }), (16, { gs := [], keep := some [1, 6, 8, 43, 44, 45, 56] }), (17, { gs := [], keep := some [2, 3] }), (18, { gs := [], keep := some [1, 43, 44, 45] }), (19, { gs := [], keep := some [1, 9] }), (20, { gs := [], keep := some [1, 9, 67] }), (21, { gs := [], keep := some [2, 3] }), (22, { gs := [], keep := some [2, 3] })]
def model_Check.b1 : C := .seq (.reg 0 [.o 0 (.lt (some 46) (.bin .lss (.tmp 45) (.tmp 44))),
    .g (.keep [1, 43, 44, 45, 46])]) (.seq (.cond (.tmp 46) (.skip) (.exit 2)) (.seq (.block 3 (.seq (.reg 1 [.o 0 (.lt (some 47) (.mov (.tmp 45))),
    .o 1 (.lt (some 48) (.ixS 10 (.tmp 43) (.tmp 45))),
    .o 2 (.lt (some 49) (.ld true 10 (.tmp 48))),
    .o 3 (.alloc (some 7) 0 10 [.a (.int .i64 0), .a (.int .i64 0), .a (.slice none 0 0), .a (.int .i64 0), .a (.int .i64 0), .a (.int .i64 0), .a (.int .i64 0), .a (.slice none 0 0), .a (.slice none 0 0), .a (.slice none 0 0)]),
    .o 4 (.lt (some 6) (.mov (.tmp 47))),
    .o 5 (.store [] 10 (.tmp 7) (.tmp 49)),
    .g (.keep [1, 6, 7, 43, 44, 45])]) (.seq (.reg 0 [.o 0 (.lt (some 50) (.ld true 10 (.tmp 7))),
    .o 1 (.lt (some 51) (.fad (.tmp 1) 0)),
    .o 2 (.lt (some 52) (.ld false 1 (.tmp 51))),
    .o 3 (.lt (some 53) (.lenSl (.tmp 52))),
    .o 4 (.call (some 54) model_con.id [(.tmp 50), (.tmp 53)]),
    .o 5 (.lt (some 8) (.mov (.tmp 54))),
    .g (.keep [1, 6, 8, 43, 44, 45])]) (.seq (.reg 0 [.o 0 (.lt (some 55) (.mov (.tmp 8))),
    .o 1 (.lt (some 56) (.bin .neq (.tmp 55) (.const (.int .i64 0)))),
    .g (.keep [1, 6, 8, 43, 44, 45, 56])]) (.cond (.tmp 56) (.seq (.reg 0 [.o 0 (.lt (some 57) (.fad (.tmp 1) 0)),
    .o 1 (.lt (some 58) (.ld false 1 (.tmp 57))),
    .o 2 (.lt (some 59) (.lenSl (.tmp 58))),
    .o 3 (.lt (some 60) (.mov (.tmp 6))),
    .o 4 (.lt (some 61) (.bin .add (.tmp 59) (.tmp 60))),
    .o 5 (.lt (some 62) (.mov (.tmp 8))),
    .o 6 (.lt (some 2) (.mov (.tmp 61))),
    .o 7 (.lt (some 3) (.mov (.tmp 62))),
    .g (.keep [2, 3])]) (.ret)) (.skip)))))) (.reg 0 [.o 0 (.lt (some 63) (.bin .add (.tmp 45) (.const (.int .i64 1)))),
    .o 1 (.lt (some 45) (.mov (.tmp 63))),
    .g (.keep [1, 43, 44, 45])])))
def model_Check.b0 : C := .seq (.reg 0 [.o 0 (.lt (some 24) (.bin .lss (.tmp 23) (.tmp 22))),
    .g (.keep [1, 22, 23, 24])]) (.seq (.cond (.tmp 24) (.skip) (.exit 0)) (.seq (.block 1 (.seq (.reg 0 [.o 0 (.lt (some 25) (.mov (.tmp 23))),
    .o 1 (.lt (some 4) (.mov (.tmp 25))),
    .g (.keep [1, 4, 22, 23])]) (.seq (.reg 0 [.o 0 (.lt (some 26) (.fad (.tmp 1) 0)),
    .o 1 (.lt (some 27) (.ld false 1 (.tmp 26))),
    .o 2 (.lt (some 28) (.mov (.tmp 4))),
    .o 3 (.call (some 29) model_variable.id [(.tmp 27), (.tmp 28)]),
    .o 4 (.lt (some 5) (.mov (.tmp 29))),
    .g (.keep [1, 4, 5, 22, 23])]) (.seq (.reg 0 [.o 0 (.lt (some 30) (.mov (.tmp 5))),
    .o 1 (.lt (some 31) (.bin .neq (.tmp 30) (.const (.int .i64 0)))),
    .g (.keep [1, 4, 5, 22, 23, 31])]) (.cond (.tmp 31) (.seq (.reg 0 [.o 0 (.lt (some 32) (.mov (.tmp 4))),
    .o 1 (.lt (some 33) (.mov (.tmp 5))),
    .o 2 (.lt (some 2) (.mov (.tmp 32))),
    .o 3 (.lt (some 3) (.mov (.tmp 33))),
    .g (.keep [2, 3])]) (.ret)) (.skip)))))) (.reg 0 [.o 0 (.lt (some 34) (.bin .add (.tmp 23) (.const (.int .i64 1)))),
    .o 1 (.lt (some 23) (.mov (.tmp 34))),
    .g (.keep [1, 22, 23])])))
def model_Check.ir : C := .seq (.reg 1 [.o 0 (.box (some 1) 0 4 (.tmp 0)),
    .o 1 (.lt (some 2) (.mov (.const (.int .i64 0)))),
    .o 2 (.lt (some 3) (.mov (.const (.int .i64 0)))),
    .g (.keep [1])]) (.seq (.seq (.reg 0 [.o 0 (.lt (some 10) (.fad (.tmp 1) 0)),
    .o 1 (.lt (some 11) (.ld false 1 (.tmp 10))),
    .o 2 (.lt (some 12) (.lenSl (.tmp 11))),
    .o 3 (.lt (some 13) (.bin .eql (.tmp 12) (.const (.int .i64 0)))),
    .o 4 (.lt (some 14) (.mov (.tmp 13))),
    .gd 5 14 false (some 15) (.lt (some 15) (.fad (.tmp 1) 0)),
    .gd 6 14 false (some 16) (.lt (some 16) (.ld false 1 (.tmp 15))),
    .gd 7 14 false (some 17) (.lt (some 17) (.lenSl (.tmp 16))),
    .gd 8 14 false (some 18) (.lt (some 18) (.bin .gtr (.tmp 17) (.const (.int .i64 32)))),
    .o 9 (.lt (some 19) (.pick (.tmp 14) (.const (.bool true)) (.tmp 18))),
    .g (.keep [1, 19])]) (.cond (.tmp 19) (.seq (.reg 0 [.o 0 (.lt (some 2) (.mov (.const (.int .i64 0)))),
    .o 1 (.lt (some 3) (.mov (.const (.int .i64 40)))),
    .g (.keep [2, 3])]) (.ret)) (.skip))) (.seq (.seq (.reg 0 [.o 0 (.lt (some 20) (.fad (.tmp 1) 0)),
    .o 1 (.lt (some 21) (.ld false 1 (.tmp 20))),
    .o 2 (.lt (some 22) (.lenSl (.tmp 21))),
    .o 3 (.lt (some 23) (.mov (.const (.int .i64 0)))),
    .g (.keep [1, 22, 23])]) (.block 0 (.loop model_Check.b0))) (.seq (.seq (.reg 0 [.o 0 (.lt (some 35) (.fad (.tmp 1) 1)),
    .o 1 (.lt (some 36) (.ld false 1 (.tmp 35))),
    .o 2 (.lt (some 37) (.lenSl (.tmp 36))),
    .o 3 (.lt (some 38) (.bin .gtr (.tmp 37) (.const (.int .i64 64)))),
    .g (.keep [1, 38])]) (.cond (.tmp 38) (.seq (.reg 0 [.o 0 (.lt (some 39) (.fad (.tmp 1) 0)),
    .o 1 (.lt (some 40) (.ld false 1 (.tmp 39))),
    .o 2 (.lt (some 41) (.lenSl (.tmp 40))),
    .o 3 (.lt (some 2) (.mov (.tmp 41))),
    .o 4 (.lt (some 3) (.mov (.const (.int .i64 49)))),
    .g (.keep [2, 3])]) (.ret)) (.skip))) (.seq (.seq (.reg 0 [.o 0 (.lt (some 42) (.fad (.tmp 1) 1)),
    .o 1 (.lt (some 43) (.ld false 1 (.tmp 42))),
    .o 2 (.lt (some 44) (.lenSl (.tmp 43))),
    .o 3 (.lt (some 45) (.mov (.const (.int .i64 0)))),
    .g (.keep [1, 43, 44, 45])]) (.block 2 (.loop model_Check.b1))) (.seq (.seq (.reg 0 [.o 0 (.lt (some 64) (.ld true 4 (.tmp 1))),
    .o 1 (.call (some 65) model_goal.id [(.tmp 64)]),
    .o 2 (.lt (some 9) (.mov (.tmp 65))),
    .g (.keep [1, 9])]) (.seq (.reg 0 [.o 0 (.lt (some 66) (.mov (.tmp 9))),
    .o 1 (.lt (some 67) (.bin .neq (.tmp 66) (.const (.int .i64 0)))),
    .g (.keep [1, 9, 67])]) (.cond (.tmp 67) (.seq (.reg 0 [.o 0 (.lt (some 68) (.fad (.tmp 1) 0)),
    .o 1 (.lt (some 69) (.ld false 1 (.tmp 68))),
    .o 2 (.lt (some 70) (.lenSl (.tmp 69))),
    .o 3 (.lt (some 71) (.fad (.tmp 1) 1)),
    .o 4 (.lt (some 72) (.ld false 1 (.tmp 71))),
    .o 5 (.lt (some 73) (.lenSl (.tmp 72))),
    .o 6 (.lt (some 74) (.bin .add (.tmp 70) (.tmp 73))),
    .o 7 (.lt (some 75) (.mov (.tmp 9))),
    .o 8 (.lt (some 2) (.mov (.tmp 74))),
    .o 9 (.lt (some 3) (.mov (.tmp 75))),
    .g (.keep [2, 3])]) (.ret)) (.skip)))) (.seq (.reg 0 [.o 0 (.lt (some 2) (.mov (.const (.int .i64 0)))),
    .o 1 (.lt (some 3) (.mov (.const (.int .i64 0)))),
    .g (.keep [2, 3])]) (.ret)))))))
def model_Check.rs : List Rs := [.sl 2, .sl 3]
theorem model_Check.ok : isFn Try.prog model_Check.id 76 model_Check.ann model_Check.ir model_Check.rs := ⟨Try.f25, _, Try.func25, rfl, rfl, by kernel_rfl, by kernel_rfl⟩
-- slices.Equal[[]int,int]
def slices_Equal_Lint_int.ann : List (Nat × RA) := [(0, { gs := [], keep := some [0, 1] }), (1, { gs := [], keep := some [0, 1, 10] }), (2, { gs := [], keep := some [4] }), (3, { gs := [], keep := some [0, 1, 12, 13] }), (4, { gs := [], keep := some [0, 1, 12, 13, 14] }), (5, { gs := [], keep := some [0, 1, 5, 12, 13] }), (6, { gs := [], keep := some [0, 1, 12, 13, 24], ord := [0, 1, 2, 3, 4, 5, 6, 7, 8] }), (7, { gs := [], keep := some [4] }), (8, { gs := [], keep := some [0, 1, 12, 13] }), (9, { gs := [], keep := some [4] })]
def slices_Equal_Lint_int.b0 : C := .seq (.reg 0 [.o 0 (.lt (some 14) (.bin .lss (.tmp 13) (.tmp 12))),
    .g (.keep [0, 1, 12, 13, 14])]) (.seq (.cond (.tmp 14) (.skip) (.exit 0)) (.seq (.block 1 (.seq (.reg 0 [.o 0 (.lt (some 15) (.mov (.tmp 13))),
    .o 1 (.lt (some 5) (.mov (.tmp 15))),
    .g (.keep [0, 1, 5, 12, 13])]) (.seq (.reg 0 [.o 0 (.lt (some 16) (.mov (.tmp 0))),
    .o 1 (.lt (some 17) (.mov (.tmp 5))),
    .o 2 (.lt (some 18) (.ixS 1 (.tmp 16) (.tmp 17))),
    .o 3 (.lt (some 19) (.ld false 1 (.tmp 18))),
    .o 4 (.lt (some 20) (.mov (.tmp 1))),
    .o 5 (.lt (some 21) (.mov (.tmp 5))),
    .o 6 (.lt (some 22) (.ixS 1 (.tmp 20) (.tmp 21))),
    .o 7 (.lt (some 23) (.ld false 1 (.tmp 22))),
    .o 8 (.lt (some 24) (.bin .neq (.tmp 19) (.tmp 23))),
    .g (.keep [0, 1, 12, 13, 24])]) (.cond (.tmp 24) (.seq (.reg 0 [.o 0 (.lt (some 4) (.mov (.const (.bool false)))),
    .g (.keep [4])]) (.ret)) (.skip))))) (.reg 0 [.o 0 (.lt (some 25) (.bin .add (.tmp 13) (.const (.int .i64 1)))),
    .o 1 (.lt (some 13) (.mov (.tmp 25))),
    .g (.keep [0, 1, 12, 13])])))
def slices_Equal_Lint_int.ir : C := .seq (.reg 0 [.o 0 (.lt (some 4) (.mov (.const (.bool false)))),
    .g (.keep [0, 1])]) (.seq (.seq (.reg 0 [.o 0 (.lt (some 6) (.mov (.tmp 0))),
    .o 1 (.lt (some 7) (.lenSl (.tmp 6))),
    .o 2 (.lt (some 8) (.mov (.tmp 1))),
    .o 3 (.lt (some 9) (.lenSl (.tmp 8))),
    .o 4 (.lt (some 10) (.bin .neq (.tmp 7) (.tmp 9))),
    .g (.keep [0, 1, 10])]) (.cond (.tmp 10) (.seq (.reg 0 [.o 0 (.lt (some 4) (.mov (.const (.bool false)))),
    .g (.keep [4])]) (.ret)) (.skip))) (.seq (.seq (.reg 0 [.o 0 (.lt (some 11) (.mov (.tmp 0))),
    .o 1 (.lt (some 12) (.lenSl (.tmp 11))),
    .o 2 (.lt (some 13) (.mov (.const (.int .i64 0)))),
    .g (.keep [0, 1, 12, 13])]) (.block 0 (.loop slices_Equal_Lint_int.b0))) (.seq (.reg 0 [.o 0 (.lt (some 4) (.mov (.const (.bool true)))),
    .g (.keep [4])]) (.ret))))
def slices_Equal_Lint_int.rs : List Rs := [.sl 4]
theorem slices_Equal_Lint_int.ok : isFn Try.prog slices_Equal_Lint_int.id 26 slices_Equal_Lint_int.ann slices_Equal_Lint_int.ir slices_Equal_Lint_int.rs := ⟨Try.f26, _, Try.func26, rfl, rfl, by kernel_rfl, by kernel_rfl⟩
-- (*hallmark/dom.Store).is
def dom_Store_is.ann : List (Nat × RA) := [(0, { gs := [], keep := some [0, 1] }), (1, { gs := [], keep := some [4] })]
def dom_Store_is.ir : C := .seq (.reg 0 [.o 0 (.lt (some 4) (.mov (.const (.bool false)))),
    .g (.keep [0, 1])]) (.seq (.reg 0 [.o 0 (.lt (some 5) (.mov (.tmp 1))),
    .o 1 (.lt (some 6) (.bin .geq (.tmp 5) (.const (.int .i64 0)))),
    .o 2 (.lt (some 7) (.mov (.tmp 6))),
    .gd 3 7 true (some 8) (.lt (some 8) (.mov (.tmp 1))),
    .gd 4 7 true (some 9) (.lt (some 9) (.mov (.tmp 0))),
    .gd 5 7 true (some 10) (.lt (some 10) (.nilc (.tmp 9))),
    .gd 6 7 true (some 11) (.lt (some 11) (.fad (.tmp 10) 0)),
    .gd 7 7 true (some 12) (.lt (some 12) (.ld false 1 (.tmp 11))),
    .gd 8 7 true (some 13) (.lt (some 13) (.lenSl (.tmp 12))),
    .gd 9 7 true (some 14) (.lt (some 14) (.bin .lss (.tmp 8) (.tmp 13))),
    .o 10 (.lt (some 15) (.pick (.tmp 7) (.tmp 14) (.const (.bool false)))),
    .o 11 (.lt (some 4) (.mov (.tmp 15))),
    .g (.keep [4])]) (.ret))
def dom_Store_is.rs : List Rs := [.sl 4]
theorem dom_Store_is.ok : isFn Try.prog dom_Store_is.id 16 dom_Store_is.ann dom_Store_is.ir dom_Store_is.rs := ⟨Try.f27, _, Try.func27, rfl, rfl, by kernel_rfl, by kernel_rfl⟩
-- (*hallmark/dom.set).has
def dom_set_has.ann : List (Nat × RA) := [(0, { gs := [], keep := some [0, 1] }), (1, { gs := [], keep := some [4] })]
def dom_set_has.ir : C := .seq (.reg 0 [.o 0 (.lt (some 4) (.mov (.const (.bool false)))),
    .g (.keep [0, 1])]) (.seq (.reg 0 [.o 0 (.lt (some 5) (.mov (.tmp 0))),
    .o 1 (.lt (some 6) (.mov (.tmp 1))),
    .o 2 (.lt (some 7) (.bin .quo (.tmp 6) (.const (.int .i64 32)))),
    .o 3 (.lt (some 8) (.nilc (.tmp 5))),
    .o 4 (.lt (some 9) (.ixA 2 1 (.tmp 8) (.tmp 7))),
    .o 5 (.lt (some 10) (.ld false 1 (.tmp 9))),
    .o 6 (.lt (some 11) (.mov (.tmp 1))),
    .o 7 (.lt (some 12) (.bin .rem (.tmp 11) (.const (.int .i64 32)))),
    .o 8 (.lt (some 13) (.bin .shr (.tmp 10) (.tmp 12))),
    .o 9 (.lt (some 14) (.bin .and (.tmp 13) (.const (.int .u32 1)))),
    .o 10 (.lt (some 15) (.bin .eql (.tmp 14) (.const (.int .u32 1)))),
    .o 11 (.lt (some 4) (.mov (.tmp 15))),
    .g (.keep [4])]) (.ret))
def dom_set_has.rs : List Rs := [.sl 4]
theorem dom_set_has.ok : isFn Try.prog dom_set_has.id 16 dom_set_has.ann dom_set_has.ir dom_set_has.rs := ⟨Try.f28, _, Try.func28, rfl, rfl, by kernel_rfl, by kernel_rfl⟩
-- slices.Clone[[]hallmark/dom.domain,hallmark/dom.domain]
def slices_Clone_Ldom_domain_dom_domain.ann : List (Nat × RA) := [(0, { gs := [], keep := some [0] }), (1, { gs := [], keep := some [0, 4] }), (2, { gs := [], keep := some [2] }), (3, { gs := [], keep := some [2], aps := [(0, [1000004])] })]
def slices_Clone_Ldom_domain_dom_domain.ir : C := .seq (.reg 0 [.o 0 (.lt (some 2) (.mov (.const (.slice none 0 0)))),
    .g (.keep [0])]) (.seq (.seq (.reg 0 [.o 0 (.lt (some 3) (.mov (.tmp 0))),
    .o 1 (.lt (some 4) (.eqN false (.tmp 3))),
    .g (.keep [0, 4])]) (.cond (.tmp 4) (.seq (.reg 0 [.o 0 (.lt (some 2) (.mov (.const (.slice none 0 0)))),
    .g (.keep [2])]) (.ret)) (.skip))) (.seq (.reg 2 [.o 0 (.bsv (some 5) 4 0 [.a (.int .i64 0), .a (.int .i64 0), .a (.int .u32 0), .a (.int .u32 0)] []),
    .o 1 (.lt (some 6) (.mov (.tmp 0))),
    .o 2 (.app [] (some 7) 1 4 24 (.tmp 5) (.tmp 6)),
    .o 3 (.lt (some 2) (.mov (.tmp 7))),
    .g (.keep [2])]) (.ret)))
def slices_Clone_Ldom_domain_dom_domain.rs : List Rs := [.sl 2]
theorem slices_Clone_Ldom_domain_dom_domain.ok : isFn Try.prog slices_Clone_Ldom_domain_dom_domain.id 8 slices_Clone_Ldom_domain_dom_domain.ann slices_Clone_Ldom_domain_dom_domain.ir slices_Clone_Ldom_domain_dom_domain.rs := ⟨Try.f29, _, Try.func29, rfl, rfl, by kernel_rfl, by kernel_rfl⟩
-- (*hallmark/dom.set).size
def dom_set_size.ann : List (Nat × RA) := [(0, { gs := [], keep := some [0] }), (1, { gs := [], keep := some [0, 3] }), (2, { gs := [], keep := some [3, 6, 7] }), (3, { gs := [], keep := some [3, 6, 7, 8] }), (4, { gs := [], keep := some [3, 5, 6, 7] }), (5, { gs := [], keep := some [3, 6, 7] }), (6, { gs := [], keep := some [3, 6, 7] }), (7, { gs := [], keep := some [2] })]
def dom_set_size.b0 : C := .seq (.reg 0 [.o 0 (.lt (some 8) (.bin .lss (.tmp 7) (.const (.int .i64 2)))),
    .g (.keep [3, 6, 7, 8])]) (.seq (.cond (.tmp 8) (.skip) (.exit 0)) (.seq (.block 1 (.seq (.reg 0 [.o 0 (.lt (some 9) (.nilc (.tmp 6))),
    .o 1 (.lt (some 10) (.ixA 2 1 (.tmp 9) (.tmp 7))),
    .o 2 (.lt (some 11) (.ld false 1 (.tmp 10))),
    .o 3 (.lt (some 5) (.mov (.tmp 11))),
    .g (.keep [3, 5, 6, 7])]) (.reg 0 [.o 0 (.lt (some 12) (.mov (.tmp 3))),
    .o 1 (.lt (some 13) (.mov (.tmp 5))),
    .o 2 (.call (some 14) math_bits_OnesCount32.id [(.tmp 13)]),
    .o 3 (.lt (some 15) (.bin .add (.tmp 12) (.tmp 14))),
    .o 4 (.lt (some 3) (.mov (.tmp 15))),
    .g (.keep [3, 6, 7])]))) (.reg 0 [.o 0 (.lt (some 16) (.bin .add (.tmp 7) (.const (.int .i64 1)))),
    .o 1 (.lt (some 7) (.mov (.tmp 16))),
    .g (.keep [3, 6, 7])])))
def dom_set_size.ir : C := .seq (.reg 0 [.o 0 (.lt (some 2) (.mov (.const (.int .i64 0)))),
    .g (.keep [0])]) (.seq (.reg 0 [.o 0 (.lt (some 3) (.mov (.const (.int .i64 0)))),
    .g (.keep [0, 3])]) (.seq (.seq (.reg 0 [.o 0 (.lt (some 6) (.mov (.tmp 0))),
    .o 1 (.lt (some 7) (.mov (.const (.int .i64 0)))),
    .g (.keep [3, 6, 7])]) (.block 0 (.loop dom_set_size.b0))) (.seq (.reg 0 [.o 0 (.lt (some 17) (.mov (.tmp 3))),
    .o 1 (.lt (some 2) (.mov (.tmp 17))),
    .g (.keep [2])]) (.ret))))
def dom_set_size.rs : List Rs := [.sl 2]
theorem dom_set_size.ok : isFn Try.prog dom_set_size.id 18 dom_set_size.ann dom_set_size.ir dom_set_size.rs := ⟨Try.f30, _, Try.func30, rfl, rfl, by kernel_rfl, by kernel_rfl⟩
-- hallmark/dom.goes
def dom_goes.ann : List (Nat × RA) := [(0, { gs := [], keep := some [1, 2] }), (1, { gs := [], keep := some [1, 2, 6] }), (2, { gs := [], keep := some [1, 2, 6, 7] }), (3, { gs := [], keep := some [4] }), (4, { gs := [], keep := some [1, 2, 13] }), (5, { gs := [], keep := some [4] }), (6, { gs := [], keep := some [4] })]
def dom_goes.ir : C := .seq (.reg 1 [.o 0 (.box (some 2) 0 3 (.tmp 0)),
    .o 1 (.lt (some 4) (.mov (.const (.bool false)))),
    .g (.keep [1, 2])]) (.seq (.seq (.reg 0 [.o 0 (.lt (some 5) (.fad (.tmp 2) 0)),
    .o 1 (.lt (some 6) (.ld false 1 (.tmp 5))),
    .g (.keep [1, 2, 6])]) (.block 0 (.seq (.reg 0 [.o 0 (.lt (some 8) (.bin .eql (.tmp 6) (.const (.int .i64 1)))),
    .o 1 (.lt (some 7) (.mov (.tmp 8))),
    .g (.keep [1, 2, 6, 7])]) (.cond (.tmp 7) (.seq (.reg 0 [.o 0 (.lt (some 9) (.mov (.tmp 1))),
    .o 1 (.lt (some 10) (.fad (.tmp 2) 2)),
    .o 2 (.lt (some 11) (.ld false 1 (.tmp 10))),
    .o 3 (.lt (some 12) (.bin .lss (.tmp 9) (.tmp 11))),
    .o 4 (.lt (some 4) (.mov (.tmp 12))),
    .g (.keep [4])]) (.ret)) (.seq (.reg 0 [.o 0 (.lt (some 14) (.bin .eql (.tmp 6) (.const (.int .i64 2)))),
    .o 1 (.lt (some 13) (.mov (.tmp 14))),
    .g (.keep [1, 2, 13])]) (.cond (.tmp 13) (.seq (.reg 0 [.o 0 (.lt (some 15) (.mov (.tmp 1))),
    .o 1 (.lt (some 16) (.fad (.tmp 2) 2)),
    .o 2 (.lt (some 17) (.ld false 1 (.tmp 16))),
    .o 3 (.lt (some 18) (.bin .gtr (.tmp 15) (.tmp 17))),
    .o 4 (.lt (some 4) (.mov (.tmp 18))),
    .g (.keep [4])]) (.ret)) (.skip))))))) (.seq (.reg 0 [.o 0 (.lt (some 19) (.fad (.tmp 2) 0)),
    .o 1 (.lt (some 20) (.ld false 1 (.tmp 19))),
    .o 2 (.lt (some 21) (.bin .eql (.tmp 20) (.const (.int .i64 3)))),
    .o 3 (.lt (some 22) (.mov (.tmp 21))),
    .gd 4 22 true (some 23) (.lt (some 23) (.mov (.tmp 1))),
    .gd 5 22 true (some 24) (.lt (some 24) (.fad (.tmp 2) 2)),
    .gd 6 22 true (some 25) (.lt (some 25) (.ld false 1 (.tmp 24))),
    .gd 7 22 true (some 26) (.lt (some 26) (.bin .eql (.tmp 23) (.tmp 25))),
    .o 8 (.lt (some 27) (.pick (.tmp 22) (.tmp 26) (.const (.bool false)))),
    .o 9 (.lt (some 4) (.mov (.tmp 27))),
    .g (.keep [4])]) (.ret)))
def dom_goes.rs : List Rs := [.sl 4]
theorem dom_goes.ok : isFn Try.prog dom_goes.id 28 dom_goes.ann dom_goes.ir dom_goes.rs := ⟨Try.f31, _, Try.func31, rfl, rfl, by kernel_rfl, by kernel_rfl⟩
-- (*hallmark/dom.set).drop
def dom_set_drop.ann : List (Nat × RA) := [(0, { gs := [], keep := some [], ord := [0, 1, 2, 3, 4, 5, 6, 7, 8, 9, 10, 11, 12] })]
def dom_set_drop.ir : C := .reg 0 [.o 0 (.lt (some 4) (.mov (.tmp 0))),
    .o 1 (.lt (some 5) (.mov (.tmp 1))),
    .o 2 (.lt (some 6) (.bin .quo (.tmp 5) (.const (.int .i64 32)))),
    .o 3 (.lt (some 7) (.nilc (.tmp 4))),
    .o 4 (.lt (some 8) (.ixA 2 1 (.tmp 7) (.tmp 6))),
    .o 5 (.lt (some 9) (.ld false 1 (.tmp 8))),
    .o 6 (.lt (some 10) (.mov (.tmp 1))),
    .o 7 (.lt (some 11) (.bin .rem (.tmp 10) (.const (.int .i64 32)))),
    .o 8 (.lt (some 12) (.bin .shl (.const (.int .u32 1)) (.tmp 11))),
    .o 9 (.lt (some 13) (.bin .andNot (.tmp 9) (.tmp 12))),
    .o 10 (.lt (some 14) (.nilc (.tmp 4))),
    .o 11 (.lt (some 15) (.ixA 2 1 (.tmp 14) (.tmp 6))),
    .o 12 (.store [] 1 (.tmp 15) (.tmp 13)),
    .g (.keep [])]
def dom_set_drop.rs : List Rs := []
theorem dom_set_drop.ok : isFn Try.prog dom_set_drop.id 16 dom_set_drop.ann dom_set_drop.ir dom_set_drop.rs := ⟨Try.f32, _, Try.func32, rfl, rfl, by kernel_rfl, by kernel_rfl⟩
-- hallmark/model.variable
def model_variable.ann : List (Nat × RA) := [(0, { gs := [], keep := some [0, 1] }), (1, { gs := [], keep := some [0, 1, 5] }), (2, { gs := [], keep := some [5, 20], aps := [(9, [1000001])] }), (3, { gs := [], keep := some [4] }), (4, { gs := [], keep := some [45] }), (5, { gs := [], keep := some [4] }), (6, { gs := [], keep := some [4] })]
def model_variable.ir : C := .seq (.reg 0 [.o 0 (.lt (some 4) (.mov (.const (.int .i64 0)))),
    .g (.keep [0, 1])]) (.seq (.reg 1 [.o 0 (.lt (some 6) (.mov (.tmp 0))),
    .o 1 (.lt (some 7) (.mov (.tmp 1))),
    .o 2 (.lt (some 8) (.ixS 3 (.tmp 6) (.tmp 7))),
    .o 3 (.lt (some 9) (.ld true 3 (.tmp 8))),
    .o 4 (.alloc (some 5) 0 3 [.a (.string ⟨#[]⟩), .a (.int .i64 0), .a (.int .i64 0)]),
    .o 5 (.store [] 3 (.tmp 5) (.tmp 9)),
    .g (.keep [0, 1, 5])]) (.seq (.seq (.reg 0 [.o 0 (.lt (some 10) (.fad (.tmp 5) 0)),
    .o 1 (.lt (some 11) (.ld false 1 (.tmp 10))),
    .o 2 (.call (some 12) model_isName.id [(.tmp 11)]),
    .o 3 (.lt (some 13) (.un .not (.tmp 12))),
    .o 4 (.lt (some 14) (.mov (.tmp 13))),
    .gd 5 14 false (some 15) (.lt (some 15) (.mov (.tmp 0))),
    .gd 6 14 false (some 16) (.lt (some 16) (.mov (.tmp 1))),
    .gd 7 14 false (some 17) (.lt (some 17) (.slSl 3 (.tmp 15) none (some (.tmp 16)))),
    .gd 8 14 false (some 18) (.lt (some 18) (.mkfn (.func model_variable_1.id) [] [(.tmp 5)])),
    .gd 9 14 false (some 19) (.callb (some 19) (.func slices_ContainsFunc_Lapi_Var_api_Var.id) [(.tmp 17), (.tmp 18)]),
    .o 10 (.lt (some 20) (.pick (.tmp 14) (.const (.bool true)) (.tmp 19))),
    .g (.keep [5, 20])]) (.cond (.tmp 20) (.seq (.reg 0 [.o 0 (.lt (some 4) (.mov (.const (.int .i64 41)))),
    .g (.keep [4])]) (.ret)) (.skip))) (.seq (.seq (.reg 0 [.o 0 (.lt (some 21) (.fad (.tmp 5) 1)),
    .o 1 (.lt (some 22) (.ld false 1 (.tmp 21))),
    .o 2 (.call (some 23) model_within.id [(.tmp 22), (.const (.int .i64 1000000000))]),
    .o 3 (.lt (some 24) (.un .not (.tmp 23))),
    .o 4 (.lt (some 25) (.mov (.tmp 24))),
    .gd 5 25 false (some 26) (.lt (some 26) (.fad (.tmp 5) 2)),
    .gd 6 25 false (some 27) (.lt (some 27) (.ld false 1 (.tmp 26))),
    .gd 7 25 false (some 28) (.call (some 28) model_within.id [(.tmp 27), (.const (.int .i64 1000000000))]),
    .gd 8 25 false (some 29) (.lt (some 29) (.un .not (.tmp 28))),
    .o 9 (.lt (some 30) (.pick (.tmp 25) (.const (.bool true)) (.tmp 29))),
    .o 10 (.lt (some 31) (.mov (.tmp 30))),
    .gd 11 31 false (some 32) (.lt (some 32) (.fad (.tmp 5) 1)),
    .gd 12 31 false (some 33) (.lt (some 33) (.ld false 1 (.tmp 32))),
    .gd 13 31 false (some 34) (.lt (some 34) (.fad (.tmp 5) 2)),
    .gd 14 31 false (some 35) (.lt (some 35) (.ld false 1 (.tmp 34))),
    .gd 15 31 false (some 36) (.lt (some 36) (.bin .gtr (.tmp 33) (.tmp 35))),
    .o 16 (.lt (some 37) (.pick (.tmp 31) (.const (.bool true)) (.tmp 36))),
    .o 17 (.lt (some 38) (.mov (.tmp 37))),
    .gd 18 38 false (some 39) (.lt (some 39) (.fad (.tmp 5) 2)),
    .gd 19 38 false (some 40) (.lt (some 40) (.ld false 1 (.tmp 39))),
    .gd 20 38 false (some 41) (.lt (some 41) (.fad (.tmp 5) 1)),
    .gd 21 38 false (some 42) (.lt (some 42) (.ld false 1 (.tmp 41))),
    .gd 22 38 false (some 43) (.lt (some 43) (.bin .sub (.tmp 40) (.tmp 42))),
    .gd 23 38 false (some 44) (.lt (some 44) (.bin .geq (.tmp 43) (.const (.int .i64 64)))),
    .o 24 (.lt (some 45) (.pick (.tmp 38) (.const (.bool true)) (.tmp 44))),
    .g (.keep [45])]) (.cond (.tmp 45) (.seq (.reg 0 [.o 0 (.lt (some 4) (.mov (.const (.int .i64 42)))),
    .g (.keep [4])]) (.ret)) (.skip))) (.seq (.reg 0 [.o 0 (.lt (some 4) (.mov (.const (.int .i64 0)))),
    .g (.keep [4])]) (.ret)))))
def model_variable.rs : List Rs := [.sl 4]
theorem model_variable.ok : isFn Try.prog model_variable.id 46 model_variable.ann model_variable.ir model_variable.rs := ⟨Try.f33, _, Try.func33, rfl, rfl, by kernel_rfl, by kernel_rfl⟩
-- hallmark/model.con
def model_con.ann : List (Nat × RA) := [(0, { gs := [], keep := some [2, 3] }), (1, { gs := [], keep := some [2, 3, 5, 6], ord := [1, 2, 0, 3, 4, 5, 6, 7, 8, 9] }), (2, { gs := [], keep := some [2, 3, 5, 32] }), (3, { gs := [], keep := some [4] }), (4, { gs := [], keep := some [2, 3, 5, 7, 8] }), (5, { gs := [], keep := some [2, 5, 7, 8, 9] }), (6, { gs := [], keep := some [2, 5, 7, 8, 9, 41] }), (7, { gs := [], keep := some [4] }), (8, { gs := [], keep := some [2, 5, 7, 8, 9, 45] }), (9, { gs := [], keep := some [2, 5, 7, 8, 9, 45] }), (10, { gs := [], keep := some [2, 5, 7, 8, 9, 45] }), (11, { gs := [], keep := some [2, 5, 7, 8, 9, 45] }), (12, { gs := [], keep := some [4] }), (13, { gs := [], keep := some [2, 5, 8, 9, 70] }), (14, { gs := [], keep := some [2, 5, 8, 9, 70], aps := [(6, [1000001])] }), (15, { gs := [], keep := some [2, 8, 9, 70], aps := [(6, [1000001])] }), (16, { gs := [], keep := some [2, 8, 70], aps := [(3, [1000001])] }), (17, { gs := [], keep := some [4] }), (18, { gs := [], keep := some [2, 92] }), (19, { gs := [], keep := some [4] }), (20, { gs := [], keep := some [2, 94] }), (21, { gs := [], keep := some [2, 94] }), (22, { gs := [], keep := some [2, 94] }), (23, { gs := [], keep := some [94], aps := [(2, [1000001])] }), (24, { gs := [], keep := some [4] }), (25, { gs := [], keep := some [4] })]
def model_con.ir : C := .seq (.reg 2 [.o 0 (.box (some 2) 0 10 (.tmp 0)),
    .o 1 (.box (some 3) 1 1 (.tmp 1)),
    .o 2 (.lt (some 4) (.mov (.const (.int .i64 0)))),
    .g (.keep [2, 3])]) (.seq (.reg 1 [.o 1 (.lt (some 12) (.fad (.tmp 2) 0)),
    .o 2 (.lt (some 13) (.ld false 1 (.tmp 12))),
    .o 0 (.call (some 11) model_kinds.id []),
    .o 3 (.lt (some 14) (.lkp true .i64 (.agg [.a (.bool false), .a (.bool false), .a (.bool false), .a (.bool false), .a (.bool false), .a (.bool false), .a (.bool false), .a (.bool false), .a (.bool false), .a (.nilFunc)]) (.tmp 11) (.tmp 13))),
    .o 4 (.lt (some 10) (.mov (.tmp 14))),
    .o 5 (.lt (some 15) (.ext (.tmp 10) 0)),
    .o 6 (.lt (some 16) (.ext (.tmp 10) 1)),
    .o 7 (.alloc (some 5) 0 10 [.a (.bool false), .a (.bool false), .a (.bool false), .a (.bool false), .a (.bool false), .a (.bool false), .a (.bool false), .a (.bool false), .a (.bool false), .a (.nilFunc)]),
    .o 8 (.store [] 10 (.tmp 5) (.tmp 15)),
    .o 9 (.lt (some 6) (.mov (.tmp 16))),
    .g (.keep [2, 3, 5, 6])]) (.seq (.seq (.reg 0 [.o 0 (.lt (some 17) (.mov (.tmp 6))),
    .o 1 (.lt (some 18) (.un .not (.tmp 17))),
    .o 2 (.lt (some 19) (.mov (.tmp 18))),
    .gd 3 19 false (some 20) (.lt (some 20) (.fad (.tmp 5) 7)),
    .gd 4 19 false (some 21) (.lt (some 21) (.ld false 1 (.tmp 20))),
    .gd 5 19 false (some 22) (.lt (some 22) (.mov (.tmp 21))),
    .gd 6 22 true (some 23) (.lt (some 23) (.fad (.tmp 2) 1)),
    .gd 7 22 true (some 24) (.lt (some 24) (.ld false 1 (.tmp 23))),
    .gd 8 22 true (some 25) (.lt (some 25) (.bin .lss (.tmp 24) (.const (.int .i64 1)))),
    .gd 9 22 true (some 26) (.lt (some 26) (.mov (.tmp 25))),
    .gd 10 26 false (some 27) (.lt (some 27) (.fad (.tmp 2) 1)),
    .gd 11 26 false (some 28) (.lt (some 28) (.ld false 1 (.tmp 27))),
    .gd 12 26 false (some 29) (.lt (some 29) (.bin .gtr (.tmp 28) (.const (.int .i64 3)))),
    .gd 13 22 true (some 30) (.lt (some 30) (.pick (.tmp 26) (.const (.bool true)) (.tmp 29))),
    .gd 14 19 false (some 31) (.lt (some 31) (.pick (.tmp 22) (.tmp 30) (.const (.bool false)))),
    .o 15 (.lt (some 32) (.pick (.tmp 19) (.const (.bool true)) (.tmp 31))),
    .g (.keep [2, 3, 5, 32])]) (.cond (.tmp 32) (.seq (.reg 0 [.o 0 (.lt (some 4) (.mov (.const (.int .i64 43)))),
    .g (.keep [4])]) (.ret)) (.skip))) (.seq (.reg 0 [.o 0 (.lt (some 34) (.fad (.tmp 2) 2)),
    .o 1 (.lt (some 35) (.ld false 1 (.tmp 34))),
    .o 2 (.lt (some 36) (.ld false 1 (.tmp 3))),
    .o 3 (.call (some 37) model_terms.id [(.tmp 35), (.tmp 36)]),
    .o 4 (.lt (some 33) (.mov (.tmp 37))),
    .o 5 (.lt (some 38) (.ext (.tmp 33) 0)),
    .o 6 (.lt (some 39) (.ext (.tmp 33) 1)),
    .o 7 (.lt (some 7) (.mov (.tmp 38))),
    .o 8 (.lt (some 8) (.mov (.tmp 39))),
    .g (.keep [2, 3, 5, 7, 8])]) (.seq (.reg 0 [.o 0 (.lt (some 40) (.mkfn (.func model_con_1.id) [] [(.tmp 3)])),
    .o 1 (.lt (some 9) (.mov (.tmp 40))),
    .g (.keep [2, 5, 7, 8, 9])]) (.seq (.block 0 (.seq (.reg 0 [.o 0 (.lt (some 42) (.ld true 10 (.tmp 2))),
    .o 1 (.lt (some 43) (.ld true 10 (.tmp 5))),
    .o 2 (.call (some 44) model_field.id [(.tmp 42), (.tmp 43)]),
    .o 3 (.lt (some 41) (.mov (.tmp 44))),
    .g (.keep [2, 5, 7, 8, 9, 41])]) (.cond (.tmp 41) (.seq (.reg 0 [.o 0 (.lt (some 4) (.mov (.const (.int .i64 48)))),
    .g (.keep [4])]) (.ret)) (.seq (.seq (.reg 0 [.o 0 (.lt (some 46) (.fad (.tmp 5) 0)),
    .o 1 (.lt (some 47) (.ld false 1 (.tmp 46))),
    .o 2 (.lt (some 48) (.fad (.tmp 2) 2)),
    .o 3 (.lt (some 49) (.ld false 1 (.tmp 48))),
    .o 4 (.lt (some 50) (.lenSl (.tmp 49))),
    .o 5 (.call (some 51) model_counts.id [(.tmp 47), (.tmp 50)]),
    .o 6 (.lt (some 52) (.un .not (.tmp 51))),
    .o 7 (.lt (some 45) (.mov (.tmp 52))),
    .g (.keep [2, 5, 7, 8, 9, 45])]) (.cond (.tmp 45) (.skip) (.seq (.reg 0 [.o 0 (.lt (some 53) (.fad (.tmp 5) 1)),
    .o 1 (.lt (some 54) (.ld false 1 (.tmp 53))),
    .o 2 (.lt (some 55) (.fad (.tmp 2) 7)),
    .o 3 (.lt (some 56) (.ld false 1 (.tmp 55))),
    .o 4 (.lt (some 57) (.lenSl (.tmp 56))),
    .o 5 (.call (some 58) model_counts.id [(.tmp 54), (.tmp 57)]),
    .o 6 (.lt (some 59) (.un .not (.tmp 58))),
    .o 7 (.lt (some 45) (.mov (.tmp 59))),
    .g (.keep [2, 5, 7, 8, 9, 45])]) (.cond (.tmp 45) (.skip) (.seq (.reg 0 [.o 0 (.lt (some 60) (.fad (.tmp 5) 2)),
    .o 1 (.lt (some 61) (.ld false 1 (.tmp 60))),
    .o 2 (.lt (some 62) (.fad (.tmp 2) 8)),
    .o 3 (.lt (some 63) (.ld false 1 (.tmp 62))),
    .o 4 (.lt (some 64) (.lenSl (.tmp 63))),
    .o 5 (.call (some 65) model_counts.id [(.tmp 61), (.tmp 64)]),
    .o 6 (.lt (some 66) (.un .not (.tmp 65))),
    .o 7 (.lt (some 45) (.mov (.tmp 66))),
    .g (.keep [2, 5, 7, 8, 9, 45])]) (.cond (.tmp 45) (.skip) (.reg 0 [.o 0 (.lt (some 67) (.ld true 10 (.tmp 2))),
    .o 1 (.lt (some 68) (.ld true 10 (.tmp 5))),
    .o 2 (.call (some 69) model_wide.id [(.tmp 67), (.tmp 68)]),
    .o 3 (.lt (some 45) (.mov (.tmp 69))),
    .g (.keep [2, 5, 7, 8, 9, 45])]))))))) (.cond (.tmp 45) (.seq (.reg 0 [.o 0 (.lt (some 4) (.mov (.const (.int .i64 47)))),
    .g (.keep [4])]) (.ret)) (.seq (.seq (.reg 0 [.o 0 (.lt (some 71) (.mov (.tmp 7))),
    .o 1 (.lt (some 70) (.mov (.tmp 71))),
    .g (.keep [2, 5, 8, 9, 70])]) (.cond (.tmp 70) (.skip) (.seq (.reg 0 [.o 0 (.lt (some 72) (.fad (.tmp 5) 4)),
    .o 1 (.lt (some 73) (.ld false 1 (.tmp 72))),
    .o 2 (.lt (some 74) (.mov (.tmp 73))),
    .gd 3 74 true (some 75) (.lt (some 75) (.mov (.tmp 9))),
    .gd 4 74 true (some 76) (.lt (some 76) (.fad (.tmp 2) 5)),
    .gd 5 74 true (some 77) (.lt (some 77) (.ld false 1 (.tmp 76))),
    .gd 6 74 true (some 78) (.callb (some 78) (.tmp 75) [(.tmp 77)]),
    .o 7 (.lt (some 79) (.pick (.tmp 74) (.tmp 78) (.const (.bool false)))),
    .o 8 (.lt (some 70) (.mov (.tmp 79))),
    .g (.keep [2, 5, 8, 9, 70])]) (.cond (.tmp 70) (.skip) (.seq (.reg 0 [.o 0 (.lt (some 80) (.fad (.tmp 5) 5)),
    .o 1 (.lt (some 81) (.ld false 1 (.tmp 80))),
    .o 2 (.lt (some 82) (.mov (.tmp 81))),
    .gd 3 82 true (some 83) (.lt (some 83) (.mov (.tmp 9))),
    .gd 4 82 true (some 84) (.lt (some 84) (.fad (.tmp 2) 6)),
    .gd 5 82 true (some 85) (.lt (some 85) (.ld false 1 (.tmp 84))),
    .gd 6 82 true (some 86) (.callb (some 86) (.tmp 83) [(.tmp 85)]),
    .o 7 (.lt (some 87) (.pick (.tmp 82) (.tmp 86) (.const (.bool false)))),
    .o 8 (.lt (some 70) (.mov (.tmp 87))),
    .g (.keep [2, 8, 9, 70])]) (.cond (.tmp 70) (.skip) (.reg 0 [.o 0 (.lt (some 88) (.fad (.tmp 2) 7)),
    .o 1 (.lt (some 89) (.ld false 1 (.tmp 88))),
    .o 2 (.lt (some 90) (.mov (.tmp 9))),
    .o 3 (.callb (some 91) (.func slices_ContainsFunc_Lint_int.id) [(.tmp 89), (.tmp 90)]),
    .o 4 (.lt (some 70) (.mov (.tmp 91))),
    .g (.keep [2, 8, 70])]))))))) (.cond (.tmp 70) (.seq (.reg 0 [.o 0 (.lt (some 4) (.mov (.const (.int .i64 44)))),
    .g (.keep [4])]) (.ret)) (.seq (.reg 0 [.o 0 (.lt (some 93) (.mov (.tmp 8))),
    .o 1 (.lt (some 92) (.mov (.tmp 93))),
    .g (.keep [2, 92])]) (.cond (.tmp 92) (.seq (.reg 0 [.o 0 (.lt (some 4) (.mov (.const (.int .i64 45)))),
    .g (.keep [4])]) (.ret)) (.seq (.seq (.reg 0 [.o 0 (.lt (some 95) (.fad (.tmp 2) 3)),
    .o 1 (.lt (some 96) (.ld false 1 (.tmp 95))),
    .o 2 (.call (some 97) model_within.id [(.tmp 96), (.const (.int .i64 1000000000))]),
    .o 3 (.lt (some 98) (.un .not (.tmp 97))),
    .o 4 (.lt (some 94) (.mov (.tmp 98))),
    .g (.keep [2, 94])]) (.cond (.tmp 94) (.skip) (.seq (.reg 0 [.o 0 (.lt (some 99) (.fad (.tmp 2) 4)),
    .o 1 (.lt (some 100) (.ld false 1 (.tmp 99))),
    .o 2 (.call (some 101) model_within.id [(.tmp 100), (.const (.int .i64 1000000000))]),
    .o 3 (.lt (some 102) (.un .not (.tmp 101))),
    .o 4 (.lt (some 94) (.mov (.tmp 102))),
    .g (.keep [2, 94])]) (.cond (.tmp 94) (.skip) (.seq (.reg 0 [.o 0 (.lt (some 103) (.fad (.tmp 2) 8)),
    .o 1 (.lt (some 104) (.ld false 1 (.tmp 103))),
    .o 2 (.call (some 105) model_great.id [(.tmp 104)]),
    .o 3 (.lt (some 94) (.mov (.tmp 105))),
    .g (.keep [2, 94])]) (.cond (.tmp 94) (.skip) (.reg 0 [.o 0 (.lt (some 106) (.fad (.tmp 2) 9)),
    .o 1 (.lt (some 107) (.ld false 1 (.tmp 106))),
    .o 2 (.callb (some 108) (.func slices_ContainsFunc_LLint_Lint.id) [(.tmp 107), (.func model_great.id)]),
    .o 3 (.lt (some 94) (.mov (.tmp 108))),
    .g (.keep [94])]))))))) (.cond (.tmp 94) (.seq (.reg 0 [.o 0 (.lt (some 4) (.mov (.const (.int .i64 46)))),
    .g (.keep [4])]) (.ret)) (.skip)))))))))))) (.seq (.reg 0 [.o 0 (.lt (some 4) (.mov (.const (.int .i64 0)))),
    .g (.keep [4])]) (.ret)))))))
def model_con.rs : List Rs := [.sl 4]
theorem model_con.ok : isFn Try.prog model_con.id 109 model_con.ann model_con.ir model_con.rs := ⟨Try.f34, _, Try.func34, rfl, rfl, by kernel_rfl, by kernel_rfl⟩
-- hallmark/model.goal
def model_goal.ann : List (Nat × RA) := [(0, { gs := [], keep := some [1] }), (1, { gs := [], keep := some [1, 3, 4] }), (2, { gs := [], keep := some [1, 3, 4, 14] }), (3, { gs := [], keep := some [2] }), (4, { gs := [], keep := some [3, 4, 24] }), (5, { gs := [], keep := some [2] }), (6, { gs := [], keep := some [4, 32] }), (7, { gs := [], keep := some [2] }), (8, { gs := [], keep := some [34] }), (9, { gs := [], keep := some [2] }), (10, { gs := [], keep := some [2] })]
def model_goal.ir : C := .seq (.reg 1 [.o 0 (.box (some 1) 0 4 (.tmp 0)),
    .o 1 (.lt (some 2) (.mov (.const (.int .i64 0)))),
    .g (.keep [1])]) (.seq (.reg 0 [.o 0 (.lt (some 6) (.fad (.tmp 1) 3)),
    .o 1 (.lt (some 7) (.ld false 1 (.tmp 6))),
    .o 2 (.lt (some 8) (.fad (.tmp 1) 0)),
    .o 3 (.lt (some 9) (.ld false 1 (.tmp 8))),
    .o 4 (.lt (some 10) (.lenSl (.tmp 9))),
    .o 5 (.call (some 11) model_terms.id [(.tmp 7), (.tmp 10)]),
    .o 6 (.lt (some 5) (.mov (.tmp 11))),
    .o 7 (.lt (some 12) (.ext (.tmp 5) 0)),
    .o 8 (.lt (some 13) (.ext (.tmp 5) 1)),
    .o 9 (.lt (some 3) (.mov (.tmp 12))),
    .o 10 (.lt (some 4) (.mov (.tmp 13))),
    .g (.keep [1, 3, 4])]) (.seq (.block 0 (.seq (.reg 0 [.o 0 (.lt (some 15) (.fad (.tmp 1) 2)),
    .o 1 (.lt (some 16) (.ld false 1 (.tmp 15))),
    .o 2 (.lt (some 17) (.un .not (.tmp 16))),
    .o 3 (.lt (some 18) (.mov (.tmp 17))),
    .gd 4 18 true (some 19) (.lt (some 19) (.fad (.tmp 1) 3)),
    .gd 5 18 true (some 20) (.lt (some 20) (.ld false 1 (.tmp 19))),
    .gd 6 18 true (some 21) (.lt (some 21) (.lenSl (.tmp 20))),
    .gd 7 18 true (some 22) (.lt (some 22) (.bin .gtr (.tmp 21) (.const (.int .i64 0)))),
    .o 8 (.lt (some 23) (.pick (.tmp 18) (.tmp 22) (.const (.bool false)))),
    .o 9 (.lt (some 14) (.mov (.tmp 23))),
    .g (.keep [1, 3, 4, 14])]) (.cond (.tmp 14) (.seq (.reg 0 [.o 0 (.lt (some 2) (.mov (.const (.int .i64 48)))),
    .g (.keep [2])]) (.ret)) (.seq (.reg 0 [.o 0 (.lt (some 25) (.fad (.tmp 1) 2)),
    .o 1 (.lt (some 26) (.ld false 1 (.tmp 25))),
    .o 2 (.lt (some 27) (.fad (.tmp 1) 3)),
    .o 3 (.lt (some 28) (.ld false 1 (.tmp 27))),
    .o 4 (.lt (some 29) (.lenSl (.tmp 28))),
    .o 5 (.call (some 30) model_counts.id [(.tmp 26), (.tmp 29)]),
    .o 6 (.lt (some 31) (.un .not (.tmp 30))),
    .o 7 (.lt (some 24) (.mov (.tmp 31))),
    .g (.keep [3, 4, 24])]) (.cond (.tmp 24) (.seq (.reg 0 [.o 0 (.lt (some 2) (.mov (.const (.int .i64 47)))),
    .g (.keep [2])]) (.ret)) (.seq (.reg 0 [.o 0 (.lt (some 33) (.mov (.tmp 3))),
    .o 1 (.lt (some 32) (.mov (.tmp 33))),
    .g (.keep [4, 32])]) (.cond (.tmp 32) (.seq (.reg 0 [.o 0 (.lt (some 2) (.mov (.const (.int .i64 44)))),
    .g (.keep [2])]) (.ret)) (.seq (.reg 0 [.o 0 (.lt (some 35) (.mov (.tmp 4))),
    .o 1 (.lt (some 34) (.mov (.tmp 35))),
    .g (.keep [34])]) (.cond (.tmp 34) (.seq (.reg 0 [.o 0 (.lt (some 2) (.mov (.const (.int .i64 45)))),
    .g (.keep [2])]) (.ret)) (.skip)))))))))) (.seq (.reg 0 [.o 0 (.lt (some 2) (.mov (.const (.int .i64 0)))),
    .g (.keep [2])]) (.ret))))
def model_goal.rs : List Rs := [.sl 2]
theorem model_goal.ok : isFn Try.prog model_goal.id 36 model_goal.ann model_goal.ir model_goal.rs := ⟨Try.f35, _, Try.func35, rfl, rfl, by kernel_rfl, by kernel_rfl⟩
-- math/bits.OnesCount32
def math_bits_OnesCount32.ann : List (Nat × RA) := [(0, { gs := [], keep := some [0] }), (1, { gs := [], keep := some [2], ord := [0, 1, 2, 3, 4, 5, 6, 7, 8, 9, 10, 11, 12, 13, 14, 15, 16, 17, 18] })]
def math_bits_OnesCount32.ir : C := .seq (.reg 0 [.o 0 (.lt (some 2) (.mov (.const (.int .i64 0)))),
    .g (.keep [0])]) (.seq (.reg 0 [.o 0 (.lt (some 3) (.mov (.tmp 0))),
    .o 1 (.lt (some 4) (.bin .shr (.tmp 3) (.const (.int .u64 24)))),
    .o 2 (.lt (some 5) (.ixStr (.const (.string { data := #[0, 1, 1, 2, 1, 2, 2, 3, 1, 2, 2, 3, 2, 3, 3, 4, 1, 2, 2, 3, 2, 3, 3, 4, 2, 3, 3, 4, 3, 4, 4, 5, 1, 2, 2, 3, 2, 3, 3, 4, 2, 3, 3, 4, 3, 4, 4, 5, 2, 3, 3, 4, 3, 4, 4, 5, 3, 4, 4, 5, 4, 5, 5, 6, 1, 2, 2, 3, 2, 3, 3, 4, 2, 3, 3, 4, 3, 4, 4, 5, 2, 3, 3, 4, 3, 4, 4, 5, 3, 4, 4, 5, 4, 5, 5, 6, 2, 3, 3, 4, 3, 4, 4, 5, 3, 4, 4, 5, 4, 5, 5, 6, 3, 4, 4, 5, 4, 5, 5, 6, 4, 5, 5, 6, 5, 6, 6, 7, 1, 2, 2, 3, 2, 3, 3, 4, 2, 3, 3, 4, 3, 4, 4, 5, 2, 3, 3, 4, 3, 4, 4, 5, 3, 4, 4, 5, 4, 5, 5, 6, 2, 3, 3, 4, 3, 4, 4, 5, 3, 4, 4, 5, 4, 5, 5, 6, 3, 4, 4, 5, 4, 5, 5, 6, 4, 5, 5, 6, 5, 6, 6, 7, 2, 3, 3, 4, 3, 4, 4, 5, 3, 4, 4, 5, 4, 5, 5, 6, 3, 4, 4, 5, 4, 5, 5, 6, 4, 5, 5, 6, 5, 6, 6, 7, 3, 4, 4, 5, 4, 5, 5, 6, 4, 5, 5, 6, 5, 6, 6, 7, 4, 5, 5, 6, 5, 6, 6, 7, 5, 6, 6, 7, 6, 7, 7, 8] })) (.tmp 4))),
    .o 3 (.lt (some 6) (.mov (.tmp 0))),
    .o 4 (.lt (some 7) (.bin .shr (.tmp 6) (.const (.int .u64 16)))),
    .o 5 (.lt (some 8) (.bin .and (.tmp 7) (.const (.int .u32 255)))),
    .o 6 (.lt (some 9) (.ixStr (.const (.string { data := #[0, 1, 1, 2, 1, 2, 2, 3, 1, 2, 2, 3, 2, 3, 3, 4, 1, 2, 2, 3, 2, 3, 3, 4, 2, 3, 3, 4, 3, 4, 4, 5, 1, 2, 2, 3, 2, 3, 3, 4, 2, 3, 3, 4, 3, 4, 4, 5, 2, 3, 3, 4, 3, 4, 4, 5, 3, 4, 4, 5, 4, 5, 5, 6, 1, 2, 2, 3, 2, 3, 3, 4, 2, 3, 3, 4, 3, 4, 4, 5, 2, 3, 3, 4, 3, 4, 4, 5, 3, 4, 4, 5, 4, 5, 5, 6, 2, 3, 3, 4, 3, 4, 4, 5, 3, 4, 4, 5, 4, 5, 5, 6, 3, 4, 4, 5, 4, 5, 5, 6, 4, 5, 5, 6, 5, 6, 6, 7, 1, 2, 2, 3, 2, 3, 3, 4, 2, 3, 3, 4, 3, 4, 4, 5, 2, 3, 3, 4, 3, 4, 4, 5, 3, 4, 4, 5, 4, 5, 5, 6, 2, 3, 3, 4, 3, 4, 4, 5, 3, 4, 4, 5, 4, 5, 5, 6, 3, 4, 4, 5, 4, 5, 5, 6, 4, 5, 5, 6, 5, 6, 6, 7, 2, 3, 3, 4, 3, 4, 4, 5, 3, 4, 4, 5, 4, 5, 5, 6, 3, 4, 4, 5, 4, 5, 5, 6, 4, 5, 5, 6, 5, 6, 6, 7, 3, 4, 4, 5, 4, 5, 5, 6, 4, 5, 5, 6, 5, 6, 6, 7, 4, 5, 5, 6, 5, 6, 6, 7, 5, 6, 6, 7, 6, 7, 7, 8] })) (.tmp 8))),
    .o 7 (.lt (some 10) (.bin .add (.tmp 5) (.tmp 9))),
    .o 8 (.lt (some 11) (.mov (.tmp 0))),
    .o 9 (.lt (some 12) (.bin .shr (.tmp 11) (.const (.int .u64 8)))),
    .o 10 (.lt (some 13) (.bin .and (.tmp 12) (.const (.int .u32 255)))),
    .o 11 (.lt (some 14) (.ixStr (.const (.string { data := #[0, 1, 1, 2, 1, 2, 2, 3, 1, 2, 2, 3, 2, 3, 3, 4, 1, 2, 2, 3, 2, 3, 3, 4, 2, 3, 3, 4, 3, 4, 4, 5, 1, 2, 2, 3, 2, 3, 3, 4, 2, 3, 3, 4, 3, 4, 4, 5, 2, 3, 3, 4, 3, 4, 4, 5, 3, 4, 4, 5, 4, 5, 5, 6, 1, 2, 2, 3, 2, 3, 3, 4, 2, 3, 3, 4, 3, 4, 4, 5, 2, 3, 3, 4, 3, 4, 4, 5, 3, 4, 4, 5, 4, 5, 5, 6, 2, 3, 3, 4, 3, 4, 4, 5, 3, 4, 4, 5, 4, 5, 5, 6, 3, 4, 4, 5, 4, 5, 5, 6, 4, 5, 5, 6, 5, 6, 6, 7, 1, 2, 2, 3, 2, 3, 3, 4, 2, 3, 3, 4, 3, 4, 4, 5, 2, 3, 3, 4, 3, 4, 4, 5, 3, 4, 4, 5, 4, 5, 5, 6, 2, 3, 3, 4, 3, 4, 4, 5, 3, 4, 4, 5, 4, 5, 5, 6, 3, 4, 4, 5, 4, 5, 5, 6, 4, 5, 5, 6, 5, 6, 6, 7, 2, 3, 3, 4, 3, 4, 4, 5, 3, 4, 4, 5, 4, 5, 5, 6, 3, 4, 4, 5, 4, 5, 5, 6, 4, 5, 5, 6, 5, 6, 6, 7, 3, 4, 4, 5, 4, 5, 5, 6, 4, 5, 5, 6, 5, 6, 6, 7, 4, 5, 5, 6, 5, 6, 6, 7, 5, 6, 6, 7, 6, 7, 7, 8] })) (.tmp 13))),
    .o 12 (.lt (some 15) (.bin .add (.tmp 10) (.tmp 14))),
    .o 13 (.lt (some 16) (.mov (.tmp 0))),
    .o 14 (.lt (some 17) (.bin .and (.tmp 16) (.const (.int .u32 255)))),
    .o 15 (.lt (some 18) (.ixStr (.const (.string { data := #[0, 1, 1, 2, 1, 2, 2, 3, 1, 2, 2, 3, 2, 3, 3, 4, 1, 2, 2, 3, 2, 3, 3, 4, 2, 3, 3, 4, 3, 4, 4, 5, 1, 2, 2, 3, 2, 3, 3, 4, 2, 3, 3, 4, 3, 4, 4, 5, 2, 3, 3, 4, 3, 4, 4, 5, 3, 4, 4, 5, 4, 5, 5, 6, 1, 2, 2, 3, 2, 3, 3, 4, 2, 3, 3, 4, 3, 4, 4, 5, 2, 3, 3, 4, 3, 4, 4, 5, 3, 4, 4, 5, 4, 5, 5, 6, 2, 3, 3, 4, 3, 4, 4, 5, 3, 4, 4, 5, 4, 5, 5, 6, 3, 4, 4, 5, 4, 5, 5, 6, 4, 5, 5, 6, 5, 6, 6, 7, 1, 2, 2, 3, 2, 3, 3, 4, 2, 3, 3, 4, 3, 4, 4, 5, 2, 3, 3, 4, 3, 4, 4, 5, 3, 4, 4, 5, 4, 5, 5, 6, 2, 3, 3, 4, 3, 4, 4, 5, 3, 4, 4, 5, 4, 5, 5, 6, 3, 4, 4, 5, 4, 5, 5, 6, 4, 5, 5, 6, 5, 6, 6, 7, 2, 3, 3, 4, 3, 4, 4, 5, 3, 4, 4, 5, 4, 5, 5, 6, 3, 4, 4, 5, 4, 5, 5, 6, 4, 5, 5, 6, 5, 6, 6, 7, 3, 4, 4, 5, 4, 5, 5, 6, 4, 5, 5, 6, 5, 6, 6, 7, 4, 5, 5, 6, 5, 6, 6, 7, 5, 6, 6, 7, 6, 7, 7, 8] })) (.tmp 17))),
    .o 16 (.lt (some 19) (.bin .add (.tmp 15) (.tmp 18))),
    .o 17 (.lt (some 20) (.conv .i64 (.tmp 19))),
    .o 18 (.lt (some 2) (.mov (.tmp 20))),
    .g (.keep [2])]) (.ret))
def math_bits_OnesCount32.rs : List Rs := [.sl 2]
theorem math_bits_OnesCount32.ok : isFn Try.prog math_bits_OnesCount32.id 21 math_bits_OnesCount32.ann math_bits_OnesCount32.ir math_bits_OnesCount32.rs := ⟨Try.f36, _, Try.func36, rfl, rfl, by kernel_rfl, by kernel_rfl⟩
-- hallmark/model.isName
def model_isName.ann : List (Nat × RA) := [(0, { gs := [], keep := some [0] }), (1, { gs := [], keep := some [0, 7] }), (2, { gs := [], keep := some [0, 7, 8, 9] }), (3, { gs := [], keep := some [0, 3, 4, 7] }), (4, { gs := [], keep := some [0, 3, 4, 5, 7] }), (5, { gs := [], keep := some [0, 7, 43] }), (6, { gs := [], keep := some [2] }), (7, { gs := [], keep := some [2] })]
def model_isName.b0 : C := .seq (.reg 0 [.o 0 (.nxt (some 8) (.tmp 7)),
    .o 1 (.lt (some 9) (.ext (.tmp 8) 0)),
    .g (.keep [0, 7, 8, 9])]) (.seq (.cond (.tmp 9) (.skip) (.exit 0)) (.block 1 (.seq (.reg 0 [.o 0 (.lt (some 10) (.ext (.tmp 8) 1)),
    .o 1 (.lt (some 11) (.ext (.tmp 8) 2)),
    .o 2 (.lt (some 3) (.mov (.tmp 10))),
    .o 3 (.lt (some 4) (.mov (.tmp 11))),
    .g (.keep [0, 3, 4, 7])]) (.seq (.reg 0 [.o 0 (.lt (some 12) (.mov (.tmp 4))),
    .o 1 (.lt (some 13) (.bin .geq (.tmp 12) (.const (.int .i32 97)))),
    .o 2 (.lt (some 14) (.mov (.tmp 13))),
    .gd 3 14 true (some 15) (.lt (some 15) (.mov (.tmp 4))),
    .gd 4 14 true (some 16) (.lt (some 16) (.bin .leq (.tmp 15) (.const (.int .i32 122)))),
    .o 5 (.lt (some 17) (.pick (.tmp 14) (.tmp 16) (.const (.bool false)))),
    .o 6 (.lt (some 18) (.mov (.tmp 17))),
    .gd 7 18 false (some 19) (.lt (some 19) (.mov (.tmp 4))),
    .gd 8 18 false (some 20) (.lt (some 20) (.bin .geq (.tmp 19) (.const (.int .i32 65)))),
    .gd 9 18 false (some 21) (.lt (some 21) (.mov (.tmp 20))),
    .gd 10 21 true (some 22) (.lt (some 22) (.mov (.tmp 4))),
    .gd 11 21 true (some 23) (.lt (some 23) (.bin .leq (.tmp 22) (.const (.int .i32 90)))),
    .gd 12 18 false (some 24) (.lt (some 24) (.pick (.tmp 21) (.tmp 23) (.const (.bool false)))),
    .o 13 (.lt (some 25) (.pick (.tmp 18) (.const (.bool true)) (.tmp 24))),
    .o 14 (.lt (some 26) (.mov (.tmp 25))),
    .gd 15 26 false (some 27) (.lt (some 27) (.mov (.tmp 4))),
    .gd 16 26 false (some 28) (.lt (some 28) (.bin .eql (.tmp 27) (.const (.int .i32 95)))),
    .o 17 (.lt (some 29) (.pick (.tmp 26) (.const (.bool true)) (.tmp 28))),
    .o 18 (.lt (some 5) (.mov (.tmp 29))),
    .g (.keep [0, 3, 4, 5, 7])]) (.seq (.reg 0 [.o 0 (.lt (some 30) (.mov (.tmp 5))),
    .o 1 (.lt (some 31) (.un .not (.tmp 30))),
    .o 2 (.lt (some 32) (.mov (.tmp 31))),
    .gd 3 32 true (some 33) (.lt (some 33) (.mov (.tmp 3))),
    .gd 4 32 true (some 34) (.lt (some 34) (.bin .eql (.tmp 33) (.const (.int .i64 0)))),
    .gd 5 32 true (some 35) (.lt (some 35) (.mov (.tmp 34))),
    .gd 6 35 false (some 36) (.lt (some 36) (.mov (.tmp 4))),
    .gd 7 35 false (some 37) (.lt (some 37) (.bin .lss (.tmp 36) (.const (.int .i32 48)))),
    .gd 8 32 true (some 38) (.lt (some 38) (.pick (.tmp 35) (.const (.bool true)) (.tmp 37))),
    .gd 9 32 true (some 39) (.lt (some 39) (.mov (.tmp 38))),
    .gd 10 39 false (some 40) (.lt (some 40) (.mov (.tmp 4))),
    .gd 11 39 false (some 41) (.lt (some 41) (.bin .gtr (.tmp 40) (.const (.int .i32 57)))),
    .gd 12 32 true (some 42) (.lt (some 42) (.pick (.tmp 39) (.const (.bool true)) (.tmp 41))),
    .o 13 (.lt (some 43) (.pick (.tmp 32) (.tmp 42) (.const (.bool false)))),
    .g (.keep [0, 7, 43])]) (.cond (.tmp 43) (.seq (.reg 0 [.o 0 (.lt (some 2) (.mov (.const (.bool false)))),
    .g (.keep [2])]) (.ret)) (.skip)))))))
def model_isName.ir : C := .seq (.reg 0 [.o 0 (.lt (some 2) (.mov (.const (.bool false)))),
    .g (.keep [0])]) (.seq (.seq (.reg 1 [.o 0 (.lt (some 6) (.mov (.tmp 0))),
    .o 1 (.rng (some 7) 0 (.tmp 6)),
    .g (.keep [0, 7])]) (.block 0 (.loop model_isName.b0))) (.seq (.reg 0 [.o 0 (.lt (some 44) (.mov (.tmp 0))),
    .o 1 (.lt (some 45) (.lenStr (.tmp 44))),
    .o 2 (.lt (some 46) (.bin .geq (.tmp 45) (.const (.int .i64 1)))),
    .o 3 (.lt (some 47) (.mov (.tmp 46))),
    .gd 4 47 true (some 48) (.lt (some 48) (.mov (.tmp 0))),
    .gd 5 47 true (some 49) (.lt (some 49) (.lenStr (.tmp 48))),
    .gd 6 47 true (some 50) (.lt (some 50) (.bin .leq (.tmp 49) (.const (.int .i64 16)))),
    .o 7 (.lt (some 51) (.pick (.tmp 47) (.tmp 50) (.const (.bool false)))),
    .o 8 (.lt (some 2) (.mov (.tmp 51))),
    .g (.keep [2])]) (.ret)))
def model_isName.rs : List Rs := [.sl 2]
theorem model_isName.ok : isFn Try.prog model_isName.id 52 model_isName.ann model_isName.ir model_isName.rs := ⟨Try.f37, _, Try.func37, rfl, rfl, by kernel_rfl, by kernel_rfl⟩
-- slices.ContainsFunc[[]hallmark/api.Var,hallmark/api.Var]
def slices_ContainsFunc_Lapi_Var_api_Var.ann : List (Nat × RA) := [(0, { gs := [], keep := some [0, 1] }), (1, { gs := [], keep := some [4] })]
def slices_ContainsFunc_Lapi_Var_api_Var.ir : C := .seq (.reg 0 [.o 0 (.lt (some 4) (.mov (.const (.bool false)))),
    .g (.keep [0, 1])]) (.seq (.reg 0 [.o 0 (.lt (some 5) (.mov (.tmp 0))),
    .o 1 (.lt (some 6) (.mov (.tmp 1))),
    .o 2 (.call (some 7) slices_IndexFunc_Lapi_Var_api_Var.id [(.tmp 5), (.tmp 6)]),
    .o 3 (.lt (some 8) (.bin .geq (.tmp 7) (.const (.int .i64 0)))),
    .o 4 (.lt (some 4) (.mov (.tmp 8))),
    .g (.keep [4])]) (.ret))
def slices_ContainsFunc_Lapi_Var_api_Var.rs : List Rs := [.sl 4]
theorem slices_ContainsFunc_Lapi_Var_api_Var.ok : isFn Try.prog slices_ContainsFunc_Lapi_Var_api_Var.id 9 slices_ContainsFunc_Lapi_Var_api_Var.ann slices_ContainsFunc_Lapi_Var_api_Var.ir slices_ContainsFunc_Lapi_Var_api_Var.rs := ⟨Try.f38, _, Try.func38, rfl, rfl, by kernel_rfl, by kernel_rfl⟩
-- hallmark/model.variable$1
def model_variable_1.ann : List (Nat × RA) := [(0, { gs := [], keep := some [1, 2] }), (1, { gs := [], keep := some [3] })]
def model_variable_1.ir : C := .seq (.reg 1 [.o 0 (.box (some 2) 0 3 (.tmp 0)),
    .o 1 (.lt (some 3) (.mov (.const (.bool false)))),
    .g (.keep [1, 2])]) (.seq (.reg 0 [.o 0 (.lt (some 4) (.fad (.tmp 2) 0)),
    .o 1 (.lt (some 5) (.ld false 1 (.tmp 4))),
    .o 2 (.lt (some 6) (.fad (.tmp 1) 0)),
    .o 3 (.lt (some 7) (.ld false 1 (.tmp 6))),
    .o 4 (.lt (some 8) (.bin .eql (.tmp 5) (.tmp 7))),
    .o 5 (.lt (some 3) (.mov (.tmp 8))),
    .g (.keep [3])]) (.ret))
def model_variable_1.rs : List Rs := [.sl 3]
theorem model_variable_1.ok : isFn Try.prog model_variable_1.id 9 model_variable_1.ann model_variable_1.ir model_variable_1.rs := ⟨Try.f39, _, Try.func39, rfl, rfl, by kernel_rfl, by kernel_rfl⟩
-- hallmark/model.within
def model_within.ann : List (Nat × RA) := [(0, { gs := [], keep := some [0, 1] }), (1, { gs := [], keep := some [4] })]
def model_within.ir : C := .seq (.reg 0 [.o 0 (.lt (some 4) (.mov (.const (.bool false)))),
    .g (.keep [0, 1])]) (.seq (.reg 0 [.o 0 (.lt (some 5) (.mov (.tmp 0))),
    .o 1 (.lt (some 6) (.mov (.tmp 1))),
    .o 2 (.lt (some 7) (.un .neg (.tmp 6))),
    .o 3 (.lt (some 8) (.bin .geq (.tmp 5) (.tmp 7))),
    .o 4 (.lt (some 9) (.mov (.tmp 8))),
    .gd 5 9 true (some 10) (.lt (some 10) (.mov (.tmp 0))),
    .gd 6 9 true (some 11) (.lt (some 11) (.mov (.tmp 1))),
    .gd 7 9 true (some 12) (.lt (some 12) (.bin .leq (.tmp 10) (.tmp 11))),
    .o 8 (.lt (some 13) (.pick (.tmp 9) (.tmp 12) (.const (.bool false)))),
    .o 9 (.lt (some 4) (.mov (.tmp 13))),
    .g (.keep [4])]) (.ret))
def model_within.rs : List Rs := [.sl 4]
theorem model_within.ok : isFn Try.prog model_within.id 14 model_within.ann model_within.ir model_within.rs := ⟨Try.f40, _, Try.func40, rfl, rfl, by kernel_rfl, by kernel_rfl⟩
-- hallmark/model.kinds
def model_kinds.ann : List (Nat × RA) := [(0, { gs := [], keep := some [] }), (1, { gs := [], keep := some [0] })]
def model_kinds.ir : C := .seq (.reg 0 [.o 0 (.lt (some 0) (.mov (.const (.map none)))),
    .g (.keep [])]) (.seq (.reg 1 [.o 0 (.mkm (some 1) 0),
    .o 1 (.lt (some 2) (.build [.a (.bool false), .a (.bool false), .a (.bool false), .a (.bool false), .a (.bool false), .a (.bool false), .a (.bool false), .a (.bool false), .a (.bool false), .a (.nilFunc)] [(0, 1, (.const (.bool true))), (6, 1, (.const (.bool true))), (7, 1, (.const (.bool true))), (9, 1, (.func model_lin.id))])),
    .o 2 (.mup [] .i64 (.tmp 1) (.const (.int .i64 1)) (.tmp 2)),
    .o 3 (.lt (some 3) (.build [.a (.bool false), .a (.bool false), .a (.bool false), .a (.bool false), .a (.bool false), .a (.bool false), .a (.bool false), .a (.bool false), .a (.bool false), .a (.nilFunc)] [(4, 1, (.const (.bool true))), (5, 1, (.const (.bool true))), (6, 1, (.const (.bool true))), (9, 1, (.func model_kinds_1.id))])),
    .o 4 (.mup [] .i64 (.tmp 1) (.const (.int .i64 2)) (.tmp 3)),
    .o 5 (.lt (some 4) (.build [.a (.bool false), .a (.bool false), .a (.bool false), .a (.bool false), .a (.bool false), .a (.bool false), .a (.bool false), .a (.bool false), .a (.bool false), .a (.nilFunc)] [(1, 1, (.const (.bool true))), (9, 1, (.func model_allDiff.id))])),
    .o 6 (.mup [] .i64 (.tmp 1) (.const (.int .i64 3)) (.tmp 4)),
    .o 7 (.lt (some 5) (.build [.a (.bool false), .a (.bool false), .a (.bool false), .a (.bool false), .a (.bool false), .a (.bool false), .a (.bool false), .a (.bool false), .a (.bool false), .a (.nilFunc)] [(4, 1, (.const (.bool true))), (5, 1, (.const (.bool true))), (2, 1, (.const (.bool true))), (9, 1, (.func model_element.id))])),
    .o 8 (.mup [] .i64 (.tmp 1) (.const (.int .i64 4)) (.tmp 5)),
    .o 9 (.lt (some 6) (.build [.a (.bool false), .a (.bool false), .a (.bool false), .a (.bool false), .a (.bool false), .a (.bool false), .a (.bool false), .a (.bool false), .a (.bool false), .a (.nilFunc)] [(5, 1, (.const (.bool true))), (1, 1, (.const (.bool true))), (9, 1, (.func model_kinds_2.id))])),
    .o 10 (.mup [] .i64 (.tmp 1) (.const (.int .i64 5)) (.tmp 6)),
    .o 11 (.lt (some 7) (.build [.a (.bool false), .a (.bool false), .a (.bool false), .a (.bool false), .a (.bool false), .a (.bool false), .a (.bool false), .a (.bool false), .a (.bool false), .a (.nilFunc)] [(5, 1, (.const (.bool true))), (1, 1, (.const (.bool true))), (9, 1, (.func model_kinds_3.id))])),
    .o 12 (.mup [] .i64 (.tmp 1) (.const (.int .i64 6)) (.tmp 7)),
    .o 13 (.lt (some 8) (.build [.a (.bool false), .a (.bool false), .a (.bool false), .a (.bool false), .a (.bool false), .a (.bool false), .a (.bool false), .a (.bool false), .a (.bool false), .a (.nilFunc)] [(4, 1, (.const (.bool true))), (0, 1, (.const (.bool true))), (6, 1, (.const (.bool true))), (9, 1, (.func model_reif.id))])),
    .o 14 (.mup [] .i64 (.tmp 1) (.const (.int .i64 7)) (.tmp 8)),
    .o 15 (.lt (some 9) (.build [.a (.bool false), .a (.bool false), .a (.bool false), .a (.bool false), .a (.bool false), .a (.bool false), .a (.bool false), .a (.bool false), .a (.bool false), .a (.nilFunc)] [(1, 1, (.const (.bool true))), (3, 1, (.const (.bool true))), (9, 1, (.func model_table.id))])),
    .o 16 (.mup [] .i64 (.tmp 1) (.const (.int .i64 8)) (.tmp 9)),
    .o 17 (.lt (some 10) (.build [.a (.bool false), .a (.bool false), .a (.bool false), .a (.bool false), .a (.bool false), .a (.bool false), .a (.bool false), .a (.bool false), .a (.bool false), .a (.nilFunc)] [(1, 1, (.const (.bool true))), (6, 1, (.const (.bool true))), (7, 1, (.const (.bool true))), (8, 1, (.const (.bool true))), (9, 1, (.func model_count.id))])),
    .o 18 (.mup [] .i64 (.tmp 1) (.const (.int .i64 9)) (.tmp 10)),
    .o 19 (.lt (some 11) (.mov (.tmp 1))),
    .o 20 (.lt (some 0) (.mov (.tmp 11))),
    .g (.keep [0])]) (.ret))
def model_kinds.rs : List Rs := [.sl 0]
theorem model_kinds.ok : isFn Try.prog model_kinds.id 12 model_kinds.ann model_kinds.ir model_kinds.rs := ⟨Try.f41, _, Try.func41, rfl, rfl, by kernel_rfl, by kernel_rfl⟩
-- hallmark/model.terms
def model_terms.ann : List (Nat × RA) := [(0, { gs := [], keep := some [0, 1, 4, 5] }), (1, { gs := [], keep := some [1, 4, 5, 8, 9, 10] }), (2, { gs := [], keep := some [1, 4, 5, 8, 9, 10, 11] }), (3, { gs := [], keep := some [1, 4, 5, 7, 8, 9, 10] }), (4, { gs := [], keep := some [1, 4, 5, 7, 8, 9, 10] }), (5, { gs := [], keep := some [1, 4, 5, 8, 9, 10] }), (6, { gs := [], keep := some [1, 4, 5, 8, 9, 10] }), (7, { gs := [], keep := some [4, 5] })]
def model_terms.b0 : C := .seq (.reg 0 [.o 0 (.lt (some 11) (.bin .lss (.tmp 10) (.tmp 9))),
    .g (.keep [1, 4, 5, 8, 9, 10, 11])]) (.seq (.cond (.tmp 11) (.skip) (.exit 0)) (.seq (.block 1 (.seq (.reg 1 [.o 0 (.lt (some 12) (.ixS 2 (.tmp 8) (.tmp 10))),
    .o 1 (.lt (some 13) (.ld true 2 (.tmp 12))),
    .o 2 (.alloc (some 7) 0 2 [.a (.int .i64 0), .a (.int .i64 0)]),
    .o 3 (.store [] 2 (.tmp 7) (.tmp 13)),
    .g (.keep [1, 4, 5, 7, 8, 9, 10])]) (.seq (.reg 0 [.o 0 (.lt (some 14) (.mov (.tmp 4))),
    .o 1 (.lt (some 15) (.mov (.tmp 14))),
    .gd 2 15 false (some 16) (.lt (some 16) (.fad (.tmp 7) 1)),
    .gd 3 15 false (some 17) (.lt (some 17) (.ld false 1 (.tmp 16))),
    .gd 4 15 false (some 18) (.lt (some 18) (.bin .lss (.tmp 17) (.const (.int .i64 0)))),
    .o 5 (.lt (some 19) (.pick (.tmp 15) (.const (.bool true)) (.tmp 18))),
    .o 6 (.lt (some 20) (.mov (.tmp 19))),
    .gd 7 20 false (some 21) (.lt (some 21) (.fad (.tmp 7) 1)),
    .gd 8 20 false (some 22) (.lt (some 22) (.ld false 1 (.tmp 21))),
    .gd 9 20 false (some 23) (.lt (some 23) (.mov (.tmp 1))),
    .gd 10 20 false (some 24) (.lt (some 24) (.bin .geq (.tmp 22) (.tmp 23))),
    .o 11 (.lt (some 25) (.pick (.tmp 20) (.const (.bool true)) (.tmp 24))),
    .o 12 (.lt (some 4) (.mov (.tmp 25))),
    .g (.keep [1, 4, 5, 7, 8, 9, 10])]) (.reg 0 [.o 0 (.lt (some 26) (.mov (.tmp 5))),
    .o 1 (.lt (some 27) (.mov (.tmp 26))),
    .gd 2 27 false (some 28) (.lt (some 28) (.fad (.tmp 7) 0)),
    .gd 3 27 false (some 29) (.lt (some 29) (.ld false 1 (.tmp 28))),
    .gd 4 27 false (some 30) (.lt (some 30) (.bin .eql (.tmp 29) (.const (.int .i64 0)))),
    .o 5 (.lt (some 31) (.pick (.tmp 27) (.const (.bool true)) (.tmp 30))),
    .o 6 (.lt (some 32) (.mov (.tmp 31))),
    .gd 7 32 false (some 33) (.lt (some 33) (.fad (.tmp 7) 0)),
    .gd 8 32 false (some 34) (.lt (some 34) (.ld false 1 (.tmp 33))),
    .gd 9 32 false (some 35) (.call (some 35) model_within.id [(.tmp 34), (.const (.int .i64 1000000))]),
    .gd 10 32 false (some 36) (.lt (some 36) (.un .not (.tmp 35))),
    .o 11 (.lt (some 37) (.pick (.tmp 32) (.const (.bool true)) (.tmp 36))),
    .o 12 (.lt (some 5) (.mov (.tmp 37))),
    .g (.keep [1, 4, 5, 8, 9, 10])])))) (.reg 0 [.o 0 (.lt (some 38) (.bin .add (.tmp 10) (.const (.int .i64 1)))),
    .o 1 (.lt (some 10) (.mov (.tmp 38))),
    .g (.keep [1, 4, 5, 8, 9, 10])])))
def model_terms.ir : C := .seq (.reg 0 [.o 0 (.lt (some 4) (.mov (.const (.bool false)))),
    .o 1 (.lt (some 5) (.mov (.const (.bool false)))),
    .g (.keep [0, 1, 4, 5])]) (.seq (.seq (.reg 0 [.o 0 (.lt (some 8) (.mov (.tmp 0))),
    .o 1 (.lt (some 9) (.lenSl (.tmp 8))),
    .o 2 (.lt (some 10) (.mov (.const (.int .i64 0)))),
    .g (.keep [1, 4, 5, 8, 9, 10])]) (.block 0 (.loop model_terms.b0))) (.seq (.reg 0 [.o 0 (.lt (some 39) (.mov (.tmp 4))),
    .o 1 (.lt (some 40) (.mov (.tmp 5))),
    .o 2 (.lt (some 4) (.mov (.tmp 39))),
    .o 3 (.lt (some 5) (.mov (.tmp 40))),
    .g (.keep [4, 5])]) (.ret)))
def model_terms.rs : List Rs := [.sl 4, .sl 5]
theorem model_terms.ok : isFn Try.prog model_terms.id 41 model_terms.ann model_terms.ir model_terms.rs := ⟨Try.f42, _, Try.func42, rfl, rfl, by kernel_rfl, by kernel_rfl⟩
-- hallmark/model.con$1
def model_con_1.ann : List (Nat × RA) := [(0, { gs := [], keep := some [0, 1] }), (1, { gs := [], keep := some [3] })]
def model_con_1.ir : C := .seq (.reg 0 [.o 0 (.lt (some 3) (.mov (.const (.bool false)))),
    .g (.keep [0, 1])]) (.seq (.reg 0 [.o 0 (.lt (some 4) (.mov (.tmp 0))),
    .o 1 (.lt (some 5) (.bin .lss (.tmp 4) (.const (.int .i64 0)))),
    .o 2 (.lt (some 6) (.mov (.tmp 5))),
    .gd 3 6 false (some 7) (.lt (some 7) (.mov (.tmp 0))),
    .gd 4 6 false (some 8) (.lt (some 8) (.ld false 1 (.tmp 1))),
    .gd 5 6 false (some 9) (.lt (some 9) (.bin .geq (.tmp 7) (.tmp 8))),
    .o 6 (.lt (some 10) (.pick (.tmp 6) (.const (.bool true)) (.tmp 9))),
    .o 7 (.lt (some 3) (.mov (.tmp 10))),
    .g (.keep [3])]) (.ret))
def model_con_1.rs : List Rs := [.sl 3]
theorem model_con_1.ok : isFn Try.prog model_con_1.id 11 model_con_1.ann model_con_1.ir model_con_1.rs := ⟨Try.f43, _, Try.func43, rfl, rfl, by kernel_rfl, by kernel_rfl⟩
-- hallmark/model.field
def model_field.ann : List (Nat × RA) := [(0, { gs := [], keep := some [2, 3] }), (1, { gs := [], keep := some [2, 3, 5] }), (2, { gs := [], keep := some [2, 3, 5, 18] }), (3, { gs := [], keep := some [2, 3, 5] }), (4, { gs := [], keep := some [2, 3, 5, 21] }), (5, { gs := [], keep := some [2, 3, 5] }), (6, { gs := [], keep := some [2, 3, 5, 24] }), (7, { gs := [], keep := some [2, 3, 5] }), (8, { gs := [], keep := some [2, 3, 5, 27] }), (9, { gs := [], keep := some [2, 3, 5] }), (10, { gs := [], keep := some [2, 3, 5, 30] }), (11, { gs := [], keep := some [2, 3, 5] }), (12, { gs := [], keep := some [4] })]
def model_field.ir : C := .seq (.reg 2 [.o 0 (.box (some 2) 0 10 (.tmp 0)),
    .o 1 (.box (some 3) 1 10 (.tmp 1)),
    .o 2 (.lt (some 4) (.mov (.const (.bool false)))),
    .g (.keep [2, 3])]) (.seq (.reg 1 [.o 0 (.lt (some 6) (.fad (.tmp 2) 1)),
    .o 1 (.lt (some 7) (.ld false 1 (.tmp 6))),
    .o 2 (.lt (some 8) (.fad (.tmp 2) 3)),
    .o 3 (.lt (some 9) (.ld false 1 (.tmp 8))),
    .o 4 (.lt (some 10) (.fad (.tmp 2) 4)),
    .o 5 (.lt (some 11) (.ld false 1 (.tmp 10))),
    .o 6 (.lt (some 12) (.fad (.tmp 2) 5)),
    .o 7 (.lt (some 13) (.ld false 1 (.tmp 12))),
    .o 8 (.lt (some 14) (.fad (.tmp 2) 6)),
    .o 9 (.lt (some 15) (.ld false 1 (.tmp 14))),
    .o 10 (.lt (some 16) (.build [.a (.int .i64 0), .a (.int .i64 0), .a (.int .i64 0), .a (.int .i64 0), .a (.int .i64 0)] [(0, 1, (.tmp 7)), (1, 1, (.tmp 9)), (2, 1, (.tmp 11)), (3, 1, (.tmp 13)), (4, 1, (.tmp 15))])),
    .o 11 (.alloc (some 5) 0 5 [.a (.int .i64 0), .a (.int .i64 0), .a (.int .i64 0), .a (.int .i64 0), .a (.int .i64 0)]),
    .o 12 (.store [] 5 (.tmp 5) (.tmp 16)),
    .g (.keep [2, 3, 5])]) (.seq (.seq (.reg 0 [.o 0 (.lt (some 17) (.fad (.tmp 3) 7)),
    .o 1 (.lt (some 18) (.ld false 1 (.tmp 17))),
    .g (.keep [2, 3, 5, 18])]) (.cond (.tmp 18) (.reg 0 [.o 0 (.lt (some 19) (.fad (.tmp 5) 0)),
    .o 1 (.store [] 1 (.tmp 19) (.const (.int .i64 0))),
    .g (.keep [2, 3, 5])]) (.skip))) (.seq (.seq (.reg 0 [.o 0 (.lt (some 20) (.fad (.tmp 3) 8)),
    .o 1 (.lt (some 21) (.ld false 1 (.tmp 20))),
    .g (.keep [2, 3, 5, 21])]) (.cond (.tmp 21) (.reg 0 [.o 0 (.lt (some 22) (.fad (.tmp 5) 2)),
    .o 1 (.store [] 1 (.tmp 22) (.const (.int .i64 0))),
    .g (.keep [2, 3, 5])]) (.skip))) (.seq (.seq (.reg 0 [.o 0 (.lt (some 23) (.fad (.tmp 3) 6)),
    .o 1 (.lt (some 24) (.ld false 1 (.tmp 23))),
    .g (.keep [2, 3, 5, 24])]) (.cond (.tmp 24) (.reg 0 [.o 0 (.lt (some 25) (.fad (.tmp 5) 1)),
    .o 1 (.store [] 1 (.tmp 25) (.const (.int .i64 0))),
    .g (.keep [2, 3, 5])]) (.skip))) (.seq (.seq (.reg 0 [.o 0 (.lt (some 26) (.fad (.tmp 3) 4)),
    .o 1 (.lt (some 27) (.ld false 1 (.tmp 26))),
    .g (.keep [2, 3, 5, 27])]) (.cond (.tmp 27) (.reg 0 [.o 0 (.lt (some 28) (.fad (.tmp 5) 3)),
    .o 1 (.store [] 1 (.tmp 28) (.const (.int .i64 0))),
    .g (.keep [2, 3, 5])]) (.skip))) (.seq (.seq (.reg 0 [.o 0 (.lt (some 29) (.fad (.tmp 3) 5)),
    .o 1 (.lt (some 30) (.ld false 1 (.tmp 29))),
    .g (.keep [2, 3, 5, 30])]) (.cond (.tmp 30) (.reg 0 [.o 0 (.lt (some 31) (.fad (.tmp 5) 4)),
    .o 1 (.store [] 1 (.tmp 31) (.const (.int .i64 0))),
    .g (.keep [2, 3, 5])]) (.skip))) (.seq (.reg 0 [.o 0 (.lt (some 32) (.ld true 5 (.tmp 5))),
    .o 1 (.lt (some 33) (.build [.a (.int .i64 0), .a (.int .i64 0), .a (.int .i64 0), .a (.int .i64 0), .a (.int .i64 0)] [])),
    .o 2 (.lt (some 34) (.eqD true [(0, 0), (1, 0), (2, 0), (3, 0), (4, 0)] (.tmp 32) (.tmp 33))),
    .o 3 (.lt (some 35) (.mov (.tmp 34))),
    .gd 4 35 false (some 36) (.lt (some 36) (.fad (.tmp 3) 0)),
    .gd 5 35 false (some 37) (.lt (some 37) (.ld false 1 (.tmp 36))),
    .gd 6 35 false (some 38) (.lt (some 38) (.un .not (.tmp 37))),
    .gd 7 35 false (some 39) (.lt (some 39) (.mov (.tmp 38))),
    .gd 8 39 true (some 40) (.lt (some 40) (.fad (.tmp 2) 2)),
    .gd 9 39 true (some 41) (.lt (some 41) (.ld false 1 (.tmp 40))),
    .gd 10 39 true (some 42) (.lt (some 42) (.lenSl (.tmp 41))),
    .gd 11 39 true (some 43) (.lt (some 43) (.bin .gtr (.tmp 42) (.const (.int .i64 0)))),
    .gd 12 35 false (some 44) (.lt (some 44) (.pick (.tmp 39) (.tmp 43) (.const (.bool false)))),
    .o 13 (.lt (some 45) (.pick (.tmp 35) (.const (.bool true)) (.tmp 44))),
    .o 14 (.lt (some 46) (.mov (.tmp 45))),
    .gd 15 46 false (some 47) (.lt (some 47) (.fad (.tmp 3) 1)),
    .gd 16 46 false (some 48) (.lt (some 48) (.ld false 1 (.tmp 47))),
    .gd 17 46 false (some 49) (.lt (some 49) (.un .not (.tmp 48))),
    .gd 18 46 false (some 50) (.lt (some 50) (.mov (.tmp 49))),
    .gd 19 50 true (some 51) (.lt (some 51) (.fad (.tmp 2) 7)),
    .gd 20 50 true (some 52) (.lt (some 52) (.ld false 1 (.tmp 51))),
    .gd 21 50 true (some 53) (.lt (some 53) (.lenSl (.tmp 52))),
    .gd 22 50 true (some 54) (.lt (some 54) (.bin .gtr (.tmp 53) (.const (.int .i64 0)))),
    .gd 23 46 false (some 55) (.lt (some 55) (.pick (.tmp 50) (.tmp 54) (.const (.bool false)))),
    .o 24 (.lt (some 56) (.pick (.tmp 46) (.const (.bool true)) (.tmp 55))),
    .o 25 (.lt (some 57) (.mov (.tmp 56))),
    .gd 26 57 false (some 58) (.lt (some 58) (.fad (.tmp 3) 2)),
    .gd 27 57 false (some 59) (.lt (some 59) (.ld false 1 (.tmp 58))),
    .gd 28 57 false (some 60) (.lt (some 60) (.un .not (.tmp 59))),
    .gd 29 57 false (some 61) (.lt (some 61) (.mov (.tmp 60))),
    .gd 30 61 true (some 62) (.lt (some 62) (.fad (.tmp 2) 8)),
    .gd 31 61 true (some 63) (.lt (some 63) (.ld false 1 (.tmp 62))),
    .gd 32 61 true (some 64) (.lt (some 64) (.lenSl (.tmp 63))),
    .gd 33 61 true (some 65) (.lt (some 65) (.bin .gtr (.tmp 64) (.const (.int .i64 0)))),
    .gd 34 57 false (some 66) (.lt (some 66) (.pick (.tmp 61) (.tmp 65) (.const (.bool false)))),
    .o 35 (.lt (some 67) (.pick (.tmp 57) (.const (.bool true)) (.tmp 66))),
    .o 36 (.lt (some 68) (.mov (.tmp 67))),
    .gd 37 68 false (some 69) (.lt (some 69) (.fad (.tmp 3) 3)),
    .gd 38 68 false (some 70) (.lt (some 70) (.ld false 1 (.tmp 69))),
    .gd 39 68 false (some 71) (.lt (some 71) (.un .not (.tmp 70))),
    .gd 40 68 false (some 72) (.lt (some 72) (.mov (.tmp 71))),
    .gd 41 72 true (some 73) (.lt (some 73) (.fad (.tmp 2) 9)),
    .gd 42 72 true (some 74) (.lt (some 74) (.ld false 1 (.tmp 73))),
    .gd 43 72 true (some 75) (.lt (some 75) (.lenSl (.tmp 74))),
    .gd 44 72 true (some 76) (.lt (some 76) (.bin .gtr (.tmp 75) (.const (.int .i64 0)))),
    .gd 45 68 false (some 77) (.lt (some 77) (.pick (.tmp 72) (.tmp 76) (.const (.bool false)))),
    .o 46 (.lt (some 78) (.pick (.tmp 68) (.const (.bool true)) (.tmp 77))),
    .o 47 (.lt (some 4) (.mov (.tmp 78))),
    .g (.keep [4])]) (.ret))))))))
def model_field.rs : List Rs := [.sl 4]
theorem model_field.ok : isFn Try.prog model_field.id 79 model_field.ann model_field.ir model_field.rs := ⟨Try.f44, _, Try.func44, rfl, rfl, by kernel_rfl, by kernel_rfl⟩
-- hallmark/model.counts
def model_counts.ann : List (Nat × RA) := [(0, { gs := [], keep := some [0, 1] }), (1, { gs := [], keep := some [4] })]
def model_counts.ir : C := .seq (.reg 0 [.o 0 (.lt (some 4) (.mov (.const (.bool false)))),
    .g (.keep [0, 1])]) (.seq (.reg 0 [.o 0 (.lt (some 5) (.mov (.tmp 0))),
    .o 1 (.lt (some 6) (.un .not (.tmp 5))),
    .o 2 (.lt (some 7) (.mov (.tmp 6))),
    .gd 3 7 false (some 8) (.lt (some 8) (.mov (.tmp 1))),
    .gd 4 7 false (some 9) (.lt (some 9) (.bin .geq (.tmp 8) (.const (.int .i64 1)))),
    .gd 5 7 false (some 10) (.lt (some 10) (.mov (.tmp 9))),
    .gd 6 10 true (some 11) (.lt (some 11) (.mov (.tmp 1))),
    .gd 7 10 true (some 12) (.lt (some 12) (.bin .leq (.tmp 11) (.const (.int .i64 64)))),
    .gd 8 7 false (some 13) (.lt (some 13) (.pick (.tmp 10) (.tmp 12) (.const (.bool false)))),
    .o 9 (.lt (some 14) (.pick (.tmp 7) (.const (.bool true)) (.tmp 13))),
    .o 10 (.lt (some 4) (.mov (.tmp 14))),
    .g (.keep [4])]) (.ret))
def model_counts.rs : List Rs := [.sl 4]
theorem model_counts.ok : isFn Try.prog model_counts.id 15 model_counts.ann model_counts.ir model_counts.rs := ⟨Try.f45, _, Try.func45, rfl, rfl, by kernel_rfl, by kernel_rfl⟩
-- hallmark/model.wide
def model_wide.ann : List (Nat × RA) := [(0, { gs := [], keep := some [2, 3] }), (1, { gs := [], keep := some [4], aps := [(18, [1000001])] })]
def model_wide.ir : C := .seq (.reg 2 [.o 0 (.box (some 2) 0 10 (.tmp 0)),
    .o 1 (.box (some 3) 1 10 (.tmp 1)),
    .o 2 (.lt (some 4) (.mov (.const (.bool false)))),
    .g (.keep [2, 3])]) (.seq (.reg 0 [.o 0 (.lt (some 5) (.fad (.tmp 3) 3)),
    .o 1 (.lt (some 6) (.ld false 1 (.tmp 5))),
    .o 2 (.lt (some 7) (.mov (.tmp 6))),
    .gd 3 7 true (some 8) (.lt (some 8) (.fad (.tmp 2) 7)),
    .gd 4 7 true (some 9) (.lt (some 9) (.ld false 1 (.tmp 8))),
    .gd 5 7 true (some 10) (.lt (some 10) (.lenSl (.tmp 9))),
    .gd 6 7 true (some 11) (.lt (some 11) (.bin .gtr (.tmp 10) (.const (.int .i64 8)))),
    .gd 7 7 true (some 12) (.lt (some 12) (.mov (.tmp 11))),
    .gd 8 12 false (some 13) (.lt (some 13) (.fad (.tmp 2) 9)),
    .gd 9 12 false (some 14) (.lt (some 14) (.ld false 1 (.tmp 13))),
    .gd 10 12 false (some 15) (.lt (some 15) (.lenSl (.tmp 14))),
    .gd 11 12 false (some 16) (.call (some 16) model_counts.id [(.const (.bool true)), (.tmp 15)]),
    .gd 12 12 false (some 17) (.lt (some 17) (.un .not (.tmp 16))),
    .gd 13 7 true (some 18) (.lt (some 18) (.pick (.tmp 12) (.const (.bool true)) (.tmp 17))),
    .gd 14 7 true (some 19) (.lt (some 19) (.mov (.tmp 18))),
    .gd 15 19 false (some 20) (.lt (some 20) (.fad (.tmp 2) 9)),
    .gd 16 19 false (some 21) (.lt (some 21) (.ld false 1 (.tmp 20))),
    .gd 17 19 false (some 22) (.lt (some 22) (.mkfn (.func model_wide_1.id) [] [(.tmp 2)])),
    .gd 18 19 false (some 23) (.callb (some 23) (.func slices_ContainsFunc_LLint_Lint.id) [(.tmp 21), (.tmp 22)]),
    .gd 19 7 true (some 24) (.lt (some 24) (.pick (.tmp 19) (.const (.bool true)) (.tmp 23))),
    .o 20 (.lt (some 25) (.pick (.tmp 7) (.tmp 24) (.const (.bool false)))),
    .o 21 (.lt (some 4) (.mov (.tmp 25))),
    .g (.keep [4])]) (.ret))
def model_wide.rs : List Rs := [.sl 4]
theorem model_wide.ok : isFn Try.prog model_wide.id 26 model_wide.ann model_wide.ir model_wide.rs := ⟨Try.f46, _, Try.func46, rfl, rfl, by kernel_rfl, by kernel_rfl⟩
-- slices.ContainsFunc[[]int,int]
def slices_ContainsFunc_Lint_int.ann : List (Nat × RA) := [(0, { gs := [], keep := some [0, 1] }), (1, { gs := [], keep := some [4] })]
def slices_ContainsFunc_Lint_int.ir : C := .seq (.reg 0 [.o 0 (.lt (some 4) (.mov (.const (.bool false)))),
    .g (.keep [0, 1])]) (.seq (.reg 0 [.o 0 (.lt (some 5) (.mov (.tmp 0))),
    .o 1 (.lt (some 6) (.mov (.tmp 1))),
    .o 2 (.call (some 7) slices_IndexFunc_Lint_int.id [(.tmp 5), (.tmp 6)]),
    .o 3 (.lt (some 8) (.bin .geq (.tmp 7) (.const (.int .i64 0)))),
    .o 4 (.lt (some 4) (.mov (.tmp 8))),
    .g (.keep [4])]) (.ret))
def slices_ContainsFunc_Lint_int.rs : List Rs := [.sl 4]
theorem slices_ContainsFunc_Lint_int.ok : isFn Try.prog slices_ContainsFunc_Lint_int.id 9 slices_ContainsFunc_Lint_int.ann slices_ContainsFunc_Lint_int.ir slices_ContainsFunc_Lint_int.rs := ⟨Try.f47, _, Try.func47, rfl, rfl, by kernel_rfl, by kernel_rfl⟩
-- hallmark/model.great
def model_great.ann : List (Nat × RA) := [(0, { gs := [], keep := some [0] }), (1, { gs := [], keep := some [2] })]
def model_great.ir : C := .seq (.reg 0 [.o 0 (.lt (some 2) (.mov (.const (.bool false)))),
    .g (.keep [0])]) (.seq (.reg 0 [.o 0 (.lt (some 3) (.mov (.tmp 0))),
    .o 1 (.call (some 4) slices_ContainsFunc_Lint_int.id [(.tmp 3), (.func model_great_1.id)]),
    .o 2 (.lt (some 2) (.mov (.tmp 4))),
    .g (.keep [2])]) (.ret))
def model_great.rs : List Rs := [.sl 2]
theorem model_great.ok : isFn Try.prog model_great.id 5 model_great.ann model_great.ir model_great.rs := ⟨Try.f48, _, Try.func48, rfl, rfl, by kernel_rfl, by kernel_rfl⟩
-- slices.ContainsFunc[[][]int,[]int]
def slices_ContainsFunc_LLint_Lint.ann : List (Nat × RA) := [(0, { gs := [], keep := some [0, 1] }), (1, { gs := [], keep := some [4] })]
def slices_ContainsFunc_LLint_Lint.ir : C := .seq (.reg 0 [.o 0 (.lt (some 4) (.mov (.const (.bool false)))),
    .g (.keep [0, 1])]) (.seq (.reg 0 [.o 0 (.lt (some 5) (.mov (.tmp 0))),
    .o 1 (.lt (some 6) (.mov (.tmp 1))),
    .o 2 (.call (some 7) slices_IndexFunc_LLint_Lint.id [(.tmp 5), (.tmp 6)]),
    .o 3 (.lt (some 8) (.bin .geq (.tmp 7) (.const (.int .i64 0)))),
    .o 4 (.lt (some 4) (.mov (.tmp 8))),
    .g (.keep [4])]) (.ret))
def slices_ContainsFunc_LLint_Lint.rs : List Rs := [.sl 4]
theorem slices_ContainsFunc_LLint_Lint.ok : isFn Try.prog slices_ContainsFunc_LLint_Lint.id 9 slices_ContainsFunc_LLint_Lint.ann slices_ContainsFunc_LLint_Lint.ir slices_ContainsFunc_LLint_Lint.rs := ⟨Try.f49, _, Try.func49, rfl, rfl, by kernel_rfl, by kernel_rfl⟩
-- slices.IndexFunc[[]hallmark/api.Var,hallmark/api.Var]
def slices_IndexFunc_Lapi_Var_api_Var.ann : List (Nat × RA) := [(0, { gs := [], keep := some [0, 1] }), (1, { gs := [], keep := some [0, 1, 7, 8] }), (2, { gs := [], keep := some [0, 1, 7, 8, 9] }), (3, { gs := [], keep := some [0, 1, 5, 7, 8] }), (4, { gs := [], keep := some [0, 1, 5, 7, 8, 16] }), (5, { gs := [], keep := some [4] }), (6, { gs := [], keep := some [0, 1, 7, 8] }), (7, { gs := [], keep := some [4] })]
def slices_IndexFunc_Lapi_Var_api_Var.b0 : C := .seq (.reg 0 [.o 0 (.lt (some 9) (.bin .lss (.tmp 8) (.tmp 7))),
    .g (.keep [0, 1, 7, 8, 9])]) (.seq (.cond (.tmp 9) (.skip) (.exit 0)) (.seq (.block 1 (.seq (.reg 0 [.o 0 (.lt (some 10) (.mov (.tmp 8))),
    .o 1 (.lt (some 5) (.mov (.tmp 10))),
    .g (.keep [0, 1, 5, 7, 8])]) (.seq (.reg 0 [.o 0 (.lt (some 11) (.mov (.tmp 1))),
    .o 1 (.lt (some 12) (.mov (.tmp 0))),
    .o 2 (.lt (some 13) (.mov (.tmp 5))),
    .o 3 (.lt (some 14) (.ixS 3 (.tmp 12) (.tmp 13))),
    .o 4 (.lt (some 15) (.ld true 3 (.tmp 14))),
    .o 5 (.callv (some 16) (.tmp 11) [(.tmp 15)]),
    .g (.keep [0, 1, 5, 7, 8, 16])]) (.cond (.tmp 16) (.seq (.reg 0 [.o 0 (.lt (some 17) (.mov (.tmp 5))),
    .o 1 (.lt (some 4) (.mov (.tmp 17))),
    .g (.keep [4])]) (.ret)) (.skip))))) (.reg 0 [.o 0 (.lt (some 18) (.bin .add (.tmp 8) (.const (.int .i64 1)))),
    .o 1 (.lt (some 8) (.mov (.tmp 18))),
    .g (.keep [0, 1, 7, 8])])))
def slices_IndexFunc_Lapi_Var_api_Var.ir : C := .seq (.reg 0 [.o 0 (.lt (some 4) (.mov (.const (.int .i64 0)))),
    .g (.keep [0, 1])]) (.seq (.seq (.reg 0 [.o 0 (.lt (some 6) (.mov (.tmp 0))),
    .o 1 (.lt (some 7) (.lenSl (.tmp 6))),
    .o 2 (.lt (some 8) (.mov (.const (.int .i64 0)))),
    .g (.keep [0, 1, 7, 8])]) (.block 0 (.loop slices_IndexFunc_Lapi_Var_api_Var.b0))) (.seq (.reg 0 [.o 0 (.lt (some 4) (.mov (.const (.int .i64 (-1))))),
    .g (.keep [4])]) (.ret)))
def slices_IndexFunc_Lapi_Var_api_Var.rs : List Rs := [.sl 4]
theorem slices_IndexFunc_Lapi_Var_api_Var.ok : isFn Try.prog slices_IndexFunc_Lapi_Var_api_Var.id 19 slices_IndexFunc_Lapi_Var_api_Var.ann slices_IndexFunc_Lapi_Var_api_Var.ir slices_IndexFunc_Lapi_Var_api_Var.rs := ⟨Try.f50, _, Try.func50, rfl, rfl, by kernel_rfl, by kernel_rfl⟩
-- hallmark/model.lin
def model_lin.ann : List (Nat × RA) := [(0, { gs := [], keep := some [1, 2] }), (1, { gs := [], keep := some [4], ord := [0, 1, 2, 3, 4, 6, 7, 5, 8, 9] })]
def model_lin.ir : C := .seq (.reg 1 [.o 0 (.box (some 2) 0 10 (.tmp 0)),
    .o 1 (.lt (some 4) (.mov (.const (.bool false)))),
    .g (.keep [1, 2])]) (.seq (.reg 0 [.o 0 (.lt (some 5) (.fad (.tmp 2) 1)),
    .o 1 (.lt (some 6) (.ld false 1 (.tmp 5))),
    .o 2 (.lt (some 7) (.fad (.tmp 2) 2)),
    .o 3 (.lt (some 8) (.ld false 1 (.tmp 7))),
    .o 4 (.lt (some 9) (.mov (.tmp 1))),
    .o 6 (.lt (some 11) (.fad (.tmp 2) 3)),
    .o 7 (.lt (some 12) (.ld false 1 (.tmp 11))),
    .o 5 (.call (some 10) model_sum.id [(.tmp 8), (.tmp 9)]),
    .o 8 (.call (some 13) model_is.id [(.tmp 6), (.tmp 10), (.tmp 12)]),
    .o 9 (.lt (some 4) (.mov (.tmp 13))),
    .g (.keep [4])]) (.ret))
def model_lin.rs : List Rs := [.sl 4]
theorem model_lin.ok : isFn Try.prog model_lin.id 14 model_lin.ann model_lin.ir model_lin.rs := ⟨Try.f51, _, Try.func51, rfl, rfl, by kernel_rfl, by kernel_rfl⟩
-- hallmark/model.kinds$1
def model_kinds_1.ann : List (Nat × RA) := [(0, { gs := [], keep := some [1, 2] }), (1, { gs := [], keep := some [4], ord := [0, 1, 2, 4, 5, 6, 8, 9, 3, 7, 10, 11, 12] })]
def model_kinds_1.ir : C := .seq (.reg 1 [.o 0 (.box (some 2) 0 10 (.tmp 0)),
    .o 1 (.lt (some 4) (.mov (.const (.bool false)))),
    .g (.keep [1, 2])]) (.seq (.reg 0 [.o 0 (.lt (some 5) (.mov (.tmp 1))),
    .o 1 (.lt (some 6) (.fad (.tmp 2) 5)),
    .o 2 (.lt (some 7) (.ld false 1 (.tmp 6))),
    .o 4 (.lt (some 9) (.mov (.tmp 1))),
    .o 5 (.lt (some 10) (.fad (.tmp 2) 6)),
    .o 6 (.lt (some 11) (.ld false 1 (.tmp 10))),
    .o 8 (.lt (some 13) (.fad (.tmp 2) 3)),
    .o 9 (.lt (some 14) (.ld false 1 (.tmp 13))),
    .o 3 (.callv (some 8) (.tmp 5) [(.tmp 7)]),
    .o 7 (.callv (some 12) (.tmp 9) [(.tmp 11)]),
    .o 10 (.lt (some 15) (.bin .add (.tmp 12) (.tmp 14))),
    .o 11 (.lt (some 16) (.bin .neq (.tmp 8) (.tmp 15))),
    .o 12 (.lt (some 4) (.mov (.tmp 16))),
    .g (.keep [4])]) (.ret))
def model_kinds_1.rs : List Rs := [.sl 4]
theorem model_kinds_1.ok : isFn Try.prog model_kinds_1.id 17 model_kinds_1.ann model_kinds_1.ir model_kinds_1.rs := ⟨Try.f52, _, Try.func52, rfl, rfl, by kernel_rfl, by kernel_rfl⟩
-- hallmark/model.allDiff
def model_allDiff.ann : List (Nat × RA) := [(0, { gs := [], keep := some [1, 2] }), (1, { gs := [], keep := some [2, 5], aps := [(3, [1000002])] }), (2, { gs := [], keep := some [2, 5], aps := [(1, [1000000])] }), (3, { gs := [], keep := some [4], ord := [0, 3, 4, 5, 1, 2, 6, 7], aps := [(1, [1000003, 2, 15, 16])] })]
def model_allDiff.ir : C := .seq (.reg 1 [.o 0 (.box (some 2) 0 10 (.tmp 0)),
    .o 1 (.lt (some 4) (.mov (.const (.bool false)))),
    .g (.keep [1, 2])]) (.seq (.reg 0 [.o 0 (.lt (some 6) (.fad (.tmp 2) 7)),
    .o 1 (.lt (some 7) (.ld false 1 (.tmp 6))),
    .o 2 (.lt (some 8) (.mov (.tmp 1))),
    .o 3 (.callo (some 9) (.func model_each.id) [(.tmp 7), (.tmp 8)]),
    .o 4 (.lt (some 5) (.mov (.tmp 9))),
    .g (.keep [2, 5])]) (.seq (.reg 0 [.o 0 (.lt (some 10) (.mov (.tmp 5))),
    .o 1 (.callm (some 11) (.func slices_Sort_Lint_int.id) [(.tmp 10)]),
    .g (.keep [2, 5])]) (.seq (.reg 0 [.o 0 (.lt (some 12) (.mov (.tmp 5))),
    .o 3 (.lt (some 15) (.fad (.tmp 2) 7)),
    .o 4 (.lt (some 16) (.ld false 1 (.tmp 15))),
    .o 5 (.lt (some 17) (.lenSl (.tmp 16))),
    .o 1 (.calla [2, 15, 16] (some 13) (.func slices_Compact_Lint_int.id) [(.tmp 12)]),
    .o 2 (.lt (some 14) (.lenSl (.tmp 13))),
    .o 6 (.lt (some 18) (.bin .eql (.tmp 14) (.tmp 17))),
    .o 7 (.lt (some 4) (.mov (.tmp 18))),
    .g (.keep [4])]) (.ret))))
def model_allDiff.rs : List Rs := [.sl 4]
theorem model_allDiff.ok : isFn Try.prog model_allDiff.id 19 model_allDiff.ann model_allDiff.ir model_allDiff.rs := ⟨Try.f53, _, Try.func53, rfl, rfl, by kernel_rfl, by kernel_rfl⟩
-- hallmark/model.element
def model_element.ann : List (Nat × RA) := [(0, { gs := [], keep := some [1, 2] }), (1, { gs := [], keep := some [1, 2, 5] }), (2, { gs := [], keep := some [4], ord := [0, 1, 2, 3, 4, 5, 6, 7, 8, 9, 10, 11, 12, 14, 15, 16, 17, 18, 13, 19, 20, 21] })]
def model_element.ir : C := .seq (.reg 1 [.o 0 (.box (some 2) 0 10 (.tmp 0)),
    .o 1 (.lt (some 4) (.mov (.const (.bool false)))),
    .g (.keep [1, 2])]) (.seq (.reg 0 [.o 0 (.lt (some 6) (.mov (.tmp 1))),
    .o 1 (.lt (some 7) (.fad (.tmp 2) 5)),
    .o 2 (.lt (some 8) (.ld false 1 (.tmp 7))),
    .o 3 (.callv (some 9) (.tmp 6) [(.tmp 8)]),
    .o 4 (.lt (some 5) (.mov (.tmp 9))),
    .g (.keep [1, 2, 5])]) (.seq (.reg 0 [.o 0 (.lt (some 10) (.mov (.tmp 5))),
    .o 1 (.lt (some 11) (.bin .geq (.tmp 10) (.const (.int .i64 0)))),
    .o 2 (.lt (some 12) (.mov (.tmp 11))),
    .gd 3 12 true (some 13) (.lt (some 13) (.mov (.tmp 5))),
    .gd 4 12 true (some 14) (.lt (some 14) (.fad (.tmp 2) 8)),
    .gd 5 12 true (some 15) (.lt (some 15) (.ld false 1 (.tmp 14))),
    .gd 6 12 true (some 16) (.lt (some 16) (.lenSl (.tmp 15))),
    .gd 7 12 true (some 17) (.lt (some 17) (.bin .lss (.tmp 13) (.tmp 16))),
    .o 8 (.lt (some 18) (.pick (.tmp 12) (.tmp 17) (.const (.bool false)))),
    .o 9 (.lt (some 19) (.mov (.tmp 18))),
    .gd 10 19 true (some 20) (.lt (some 20) (.mov (.tmp 1))),
    .gd 11 19 true (some 21) (.lt (some 21) (.fad (.tmp 2) 6)),
    .gd 12 19 true (some 22) (.lt (some 22) (.ld false 1 (.tmp 21))),
    .gd 14 19 true (some 24) (.lt (some 24) (.fad (.tmp 2) 8)),
    .gd 15 19 true (some 25) (.lt (some 25) (.ld false 1 (.tmp 24))),
    .gd 16 19 true (some 26) (.lt (some 26) (.mov (.tmp 5))),
    .gd 17 19 true (some 27) (.lt (some 27) (.ixS 1 (.tmp 25) (.tmp 26))),
    .gd 18 19 true (some 28) (.lt (some 28) (.ld false 1 (.tmp 27))),
    .gd 13 19 true (some 23) (.callv (some 23) (.tmp 20) [(.tmp 22)]),
    .gd 19 19 true (some 29) (.lt (some 29) (.bin .eql (.tmp 23) (.tmp 28))),
    .o 20 (.lt (some 30) (.pick (.tmp 19) (.tmp 29) (.const (.bool false)))),
    .o 21 (.lt (some 4) (.mov (.tmp 30))),
    .g (.keep [4])]) (.ret)))
def model_element.rs : List Rs := [.sl 4]
theorem model_element.ok : isFn Try.prog model_element.id 31 model_element.ann model_element.ir model_element.rs := ⟨Try.f54, _, Try.func54, rfl, rfl, by kernel_rfl, by kernel_rfl⟩
-- hallmark/model.kinds$2
def model_kinds_2.ann : List (Nat × RA) := [(0, { gs := [], keep := some [1, 2] }), (1, { gs := [], keep := some [4], ord := [0, 1, 2, 4, 5, 6, 3, 7, 8, 9, 10] })]
def model_kinds_2.ir : C := .seq (.reg 1 [.o 0 (.box (some 2) 0 10 (.tmp 0)),
    .o 1 (.lt (some 4) (.mov (.const (.bool false)))),
    .g (.keep [1, 2])]) (.seq (.reg 0 [.o 0 (.lt (some 5) (.mov (.tmp 1))),
    .o 1 (.lt (some 6) (.fad (.tmp 2) 6)),
    .o 2 (.lt (some 7) (.ld false 1 (.tmp 6))),
    .o 4 (.lt (some 9) (.fad (.tmp 2) 7)),
    .o 5 (.lt (some 10) (.ld false 1 (.tmp 9))),
    .o 6 (.lt (some 11) (.mov (.tmp 1))),
    .o 3 (.callv (some 8) (.tmp 5) [(.tmp 7)]),
    .o 7 (.call (some 12) model_each.id [(.tmp 10), (.tmp 11)]),
    .o 8 (.call (some 13) slices_Max_Lint_int.id [(.tmp 12)]),
    .o 9 (.lt (some 14) (.bin .eql (.tmp 8) (.tmp 13))),
    .o 10 (.lt (some 4) (.mov (.tmp 14))),
    .g (.keep [4])]) (.ret))
def model_kinds_2.rs : List Rs := [.sl 4]
theorem model_kinds_2.ok : isFn Try.prog model_kinds_2.id 15 model_kinds_2.ann model_kinds_2.ir model_kinds_2.rs := ⟨Try.f55, _, Try.func55, rfl, rfl, by kernel_rfl, by kernel_rfl⟩
-- slices.Max[[]int,int]
def slices_Max_Lint_int.ann : List (Nat × RA) := [(0, { gs := [], keep := some [0] }), (1, { gs := [], keep := some [0, 7] }), (2, { gs := [], keep := some [0] }), (3, { gs := [], keep := some [0, 3] }), (4, { gs := [], keep := some [0, 3, 4] }), (5, { gs := [], keep := some [0, 3, 4, 15] }), (6, { gs := [], keep := some [0, 3, 4] }), (7, { gs := [], keep := some [0, 3, 4] }), (8, { gs := [], keep := some [2] })]
def slices_Max_Lint_int.b0 : C := .seq (.seq (.reg 0 [.o 0 (.lt (some 12) (.mov (.tmp 4))),
    .o 1 (.lt (some 13) (.mov (.tmp 0))),
    .o 2 (.lt (some 14) (.lenSl (.tmp 13))),
    .o 3 (.lt (some 15) (.bin .lss (.tmp 12) (.tmp 14))),
    .g (.keep [0, 3, 4, 15])]) (.cond (.tmp 15) (.skip) (.exit 0))) (.seq (.block 1 (.reg 0 [.o 0 (.lt (some 18) (.mov (.tmp 3))),
    .o 1 (.lt (some 19) (.mov (.tmp 0))),
    .o 2 (.lt (some 20) (.mov (.tmp 4))),
    .o 3 (.lt (some 21) (.ixS 1 (.tmp 19) (.tmp 20))),
    .o 4 (.lt (some 22) (.ld false 1 (.tmp 21))),
    .o 5 (.lt (some 23) (.mxm true [(.tmp 18), (.tmp 22)])),
    .o 6 (.lt (some 3) (.mov (.tmp 23))),
    .g (.keep [0, 3, 4])])) (.reg 0 [.o 0 (.lt (some 16) (.mov (.tmp 4))),
    .o 1 (.lt (some 17) (.bin .add (.tmp 16) (.const (.int .i64 1)))),
    .o 2 (.lt (some 4) (.mov (.tmp 17))),
    .g (.keep [0, 3, 4])]))
def slices_Max_Lint_int.ir : C := .seq (.reg 0 [.o 0 (.lt (some 2) (.mov (.const (.int .i64 0)))),
    .g (.keep [0])]) (.seq (.seq (.reg 0 [.o 0 (.lt (some 5) (.mov (.tmp 0))),
    .o 1 (.lt (some 6) (.lenSl (.tmp 5))),
    .o 2 (.lt (some 7) (.bin .lss (.tmp 6) (.const (.int .i64 1)))),
    .g (.keep [0, 7])]) (.cond (.tmp 7) (.reg 0 [.o 0 (.lt (some 8) (.mkif 9 (.const (.string { data := #[115, 108, 105, 99, 101, 115, 46, 77, 97, 120, 58, 32, 101, 109, 112, 116, 121, 32, 108, 105, 115, 116] })))),
    .o 1 (.pan),
    .g (.keep [0])]) (.skip))) (.seq (.reg 0 [.o 0 (.lt (some 9) (.mov (.tmp 0))),
    .o 1 (.lt (some 10) (.ixS 1 (.tmp 9) (.const (.int .i64 0)))),
    .o 2 (.lt (some 11) (.ld false 1 (.tmp 10))),
    .o 3 (.lt (some 3) (.mov (.tmp 11))),
    .g (.keep [0, 3])]) (.seq (.seq (.reg 0 [.o 0 (.lt (some 4) (.mov (.const (.int .i64 1)))),
    .g (.keep [0, 3, 4])]) (.block 0 (.loop slices_Max_Lint_int.b0))) (.seq (.reg 0 [.o 0 (.lt (some 24) (.mov (.tmp 3))),
    .o 1 (.lt (some 2) (.mov (.tmp 24))),
    .g (.keep [2])]) (.ret)))))
def slices_Max_Lint_int.rs : List Rs := [.sl 2]
theorem slices_Max_Lint_int.ok : isFn Try.prog slices_Max_Lint_int.id 25 slices_Max_Lint_int.ann slices_Max_Lint_int.ir slices_Max_Lint_int.rs := ⟨Try.f56, _, Try.func56, rfl, rfl, by kernel_rfl, by kernel_rfl⟩
-- hallmark/model.each
def model_each.ann : List (Nat × RA) := [(0, { gs := [], keep := some [0, 1] }), (1, { gs := [], keep := some [0, 1, 5] }), (2, { gs := [], keep := some [1, 5, 8, 9, 10] }), (3, { gs := [], keep := some [1, 5, 8, 9, 10, 11] }), (4, { gs := [], keep := some [1, 5, 7, 8, 9, 10] }), (5, { gs := [], keep := some [1, 5, 8, 9, 10] }), (6, { gs := [], keep := some [1, 5, 8, 9, 10] }), (7, { gs := [(0, [.nilv 5 1])], keep := some [4] })]
def model_each.b0 : C := .seq (.reg 0 [.o 0 (.lt (some 11) (.bin .lss (.tmp 10) (.tmp 9))),
    .g (.keep [1, 5, 8, 9, 10, 11])]) (.seq (.cond (.tmp 11) (.skip) (.exit 0)) (.seq (.block 1 (.seq (.reg 0 [.o 0 (.lt (some 12) (.ixS 1 (.tmp 8) (.tmp 10))),
    .o 1 (.lt (some 13) (.ld false 1 (.tmp 12))),
    .o 2 (.lt (some 7) (.mov (.tmp 13))),
    .g (.keep [1, 5, 7, 8, 9, 10])]) (.reg 2 [.o 0 (.lt (some 14) (.mov (.tmp 5))),
    .o 1 (.lt (some 15) (.mov (.tmp 1))),
    .o 2 (.lt (some 16) (.mov (.tmp 7))),
    .o 3 (.callv (some 17) (.tmp 15) [(.tmp 16)]),
    .o 4 (.bsl (some 18) 0 1 1 [.a (.int .i64 0)] [(0, (.tmp 17))]),
    .o 5 (.app [] (some 19) 1 1 8 (.tmp 14) (.tmp 18)),
    .o 6 (.lt (some 5) (.mov (.tmp 19))),
    .g (.keep [1, 5, 8, 9, 10])]))) (.reg 0 [.o 0 (.lt (some 20) (.bin .add (.tmp 10) (.const (.int .i64 1)))),
    .o 1 (.lt (some 10) (.mov (.tmp 20))),
    .g (.keep [1, 5, 8, 9, 10])])))
def model_each.ir : C := .seq (.reg 0 [.o 0 (.lt (some 4) (.mov (.const (.slice none 0 0)))),
    .g (.keep [0, 1])]) (.seq (.reg 0 [.o 0 (.lt (some 5) (.mov (.const (.slice none 0 0)))),
    .g (.keep [0, 1, 5])]) (.seq (.seq (.reg 0 [.o 0 (.lt (some 8) (.mov (.tmp 0))),
    .o 1 (.lt (some 9) (.lenSl (.tmp 8))),
    .o 2 (.lt (some 10) (.mov (.const (.int .i64 0)))),
    .g (.keep [1, 5, 8, 9, 10])]) (.block 0 (.loop model_each.b0))) (.seq (.reg 0 [.g (.nilv 5 1),
    .o 0 (.lt (some 21) (.mov (.tmp 5))),
    .o 1 (.lt (some 4) (.mov (.tmp 21))),
    .g (.keep [4])]) (.ret))))
def model_each.rs : List Rs := [.sl 4]
theorem model_each.ok : isFn Try.prog model_each.id 22 model_each.ann model_each.ir model_each.rs := ⟨Try.f57, _, Try.func57, rfl, rfl, by kernel_rfl, by kernel_rfl⟩
-- hallmark/model.kinds$3
def model_kinds_3.ann : List (Nat × RA) := [(0, { gs := [], keep := some [1, 2] }), (1, { gs := [], keep := some [4], ord := [0, 1, 2, 4, 5, 6, 3, 7, 8, 9, 10] })]
def model_kinds_3.ir : C := .seq (.reg 1 [.o 0 (.box (some 2) 0 10 (.tmp 0)),
    .o 1 (.lt (some 4) (.mov (.const (.bool false)))),
    .g (.keep [1, 2])]) (.seq (.reg 0 [.o 0 (.lt (some 5) (.mov (.tmp 1))),
    .o 1 (.lt (some 6) (.fad (.tmp 2) 6)),
    .o 2 (.lt (some 7) (.ld false 1 (.tmp 6))),
    .o 4 (.lt (some 9) (.fad (.tmp 2) 7)),
    .o 5 (.lt (some 10) (.ld false 1 (.tmp 9))),
    .o 6 (.lt (some 11) (.mov (.tmp 1))),
    .o 3 (.callv (some 8) (.tmp 5) [(.tmp 7)]),
    .o 7 (.call (some 12) model_each.id [(.tmp 10), (.tmp 11)]),
    .o 8 (.call (some 13) slices_Min_Lint_int.id [(.tmp 12)]),
    .o 9 (.lt (some 14) (.bin .eql (.tmp 8) (.tmp 13))),
    .o 10 (.lt (some 4) (.mov (.tmp 14))),
    .g (.keep [4])]) (.ret))
def model_kinds_3.rs : List Rs := [.sl 4]
theorem model_kinds_3.ok : isFn Try.prog model_kinds_3.id 15 model_kinds_3.ann model_kinds_3.ir model_kinds_3.rs := ⟨Try.f58, _, Try.func58, rfl, rfl, by kernel_rfl, by kernel_rfl⟩
-- slices.Min[[]int,int]
def slices_Min_Lint_int.ann : List (Nat × RA) := [(0, { gs := [], keep := some [0] }), (1, { gs := [], keep := some [0, 7] }), (2, { gs := [], keep := some [0] }), (3, { gs := [], keep := some [0, 3] }), (4, { gs := [], keep := some [0, 3, 4] }), (5, { gs := [], keep := some [0, 3, 4, 15] }), (6, { gs := [], keep := some [0, 3, 4] }), (7, { gs := [], keep := some [0, 3, 4] }), (8, { gs := [], keep := some [2] })]
def slices_Min_Lint_int.b0 : C := .seq (.seq (.reg 0 [.o 0 (.lt (some 12) (.mov (.tmp 4))),
    .o 1 (.lt (some 13) (.mov (.tmp 0))),
    .o 2 (.lt (some 14) (.lenSl (.tmp 13))),
    .o 3 (.lt (some 15) (.bin .lss (.tmp 12) (.tmp 14))),
    .g (.keep [0, 3, 4, 15])]) (.cond (.tmp 15) (.skip) (.exit 0))) (.seq (.block 1 (.reg 0 [.o 0 (.lt (some 18) (.mov (.tmp 3))),
    .o 1 (.lt (some 19) (.mov (.tmp 0))),
    .o 2 (.lt (some 20) (.mov (.tmp 4))),
    .o 3 (.lt (some 21) (.ixS 1 (.tmp 19) (.tmp 20))),
    .o 4 (.lt (some 22) (.ld false 1 (.tmp 21))),
    .o 5 (.lt (some 23) (.mxm false [(.tmp 18), (.tmp 22)])),
    .o 6 (.lt (some 3) (.mov (.tmp 23))),
    .g (.keep [0, 3, 4])])) (.reg 0 [.o 0 (.lt (some 16) (.mov (.tmp 4))),
    .o 1 (.lt (some 17) (.bin .add (.tmp 16) (.const (.int .i64 1)))),
    .o 2 (.lt (some 4) (.mov (.tmp 17))),
    .g (.keep [0, 3, 4])]))
def slices_Min_Lint_int.ir : C := .seq (.reg 0 [.o 0 (.lt (some 2) (.mov (.const (.int .i64 0)))),
    .g (.keep [0])]) (.seq (.seq (.reg 0 [.o 0 (.lt (some 5) (.mov (.tmp 0))),
    .o 1 (.lt (some 6) (.lenSl (.tmp 5))),
    .o 2 (.lt (some 7) (.bin .lss (.tmp 6) (.const (.int .i64 1)))),
    .g (.keep [0, 7])]) (.cond (.tmp 7) (.reg 0 [.o 0 (.lt (some 8) (.mkif 9 (.const (.string { data := #[115, 108, 105, 99, 101, 115, 46, 77, 105, 110, 58, 32, 101, 109, 112, 116, 121, 32, 108, 105, 115, 116] })))),
    .o 1 (.pan),
    .g (.keep [0])]) (.skip))) (.seq (.reg 0 [.o 0 (.lt (some 9) (.mov (.tmp 0))),
    .o 1 (.lt (some 10) (.ixS 1 (.tmp 9) (.const (.int .i64 0)))),
    .o 2 (.lt (some 11) (.ld false 1 (.tmp 10))),
    .o 3 (.lt (some 3) (.mov (.tmp 11))),
    .g (.keep [0, 3])]) (.seq (.seq (.reg 0 [.o 0 (.lt (some 4) (.mov (.const (.int .i64 1)))),
    .g (.keep [0, 3, 4])]) (.block 0 (.loop slices_Min_Lint_int.b0))) (.seq (.reg 0 [.o 0 (.lt (some 24) (.mov (.tmp 3))),
    .o 1 (.lt (some 2) (.mov (.tmp 24))),
    .g (.keep [2])]) (.ret)))))
def slices_Min_Lint_int.rs : List Rs := [.sl 2]
theorem slices_Min_Lint_int.ok : isFn Try.prog slices_Min_Lint_int.id 25 slices_Min_Lint_int.ann slices_Min_Lint_int.ir slices_Min_Lint_int.rs := ⟨Try.f59, _, Try.func59, rfl, rfl, by kernel_rfl, by kernel_rfl⟩
-- hallmark/model.reif
def model_reif.ann : List (Nat × RA) := [(0, { gs := [], keep := some [1, 2] }), (1, { gs := [], keep := some [1, 2, 5] }), (2, { gs := [], keep := some [5, 16], ord := [0, 1, 2, 4, 5, 3, 6] }), (3, { gs := [], keep := some [4] }), (4, { gs := [], keep := some [4] })]
def model_reif.ir : C := .seq (.reg 1 [.o 0 (.box (some 2) 0 10 (.tmp 0)),
    .o 1 (.lt (some 4) (.mov (.const (.bool false)))),
    .g (.keep [1, 2])]) (.seq (.reg 0 [.o 0 (.lt (some 6) (.mov (.tmp 1))),
    .o 1 (.lt (some 7) (.fad (.tmp 2) 5)),
    .o 2 (.lt (some 8) (.ld false 1 (.tmp 7))),
    .o 3 (.callv (some 9) (.tmp 6) [(.tmp 8)]),
    .o 4 (.lt (some 5) (.mov (.tmp 9))),
    .g (.keep [1, 2, 5])]) (.seq (.seq (.reg 0 [.o 0 (.lt (some 10) (.fad (.tmp 2) 2)),
    .o 1 (.lt (some 11) (.ld false 1 (.tmp 10))),
    .o 2 (.lt (some 12) (.mov (.tmp 1))),
    .o 4 (.lt (some 14) (.fad (.tmp 2) 3)),
    .o 5 (.lt (some 15) (.ld false 1 (.tmp 14))),
    .o 3 (.call (some 13) model_sum.id [(.tmp 11), (.tmp 12)]),
    .o 6 (.lt (some 16) (.bin .leq (.tmp 13) (.tmp 15))),
    .g (.keep [5, 16])]) (.cond (.tmp 16) (.seq (.reg 0 [.o 0 (.lt (some 17) (.mov (.tmp 5))),
    .o 1 (.lt (some 18) (.bin .eql (.tmp 17) (.const (.int .i64 1)))),
    .o 2 (.lt (some 4) (.mov (.tmp 18))),
    .g (.keep [4])]) (.ret)) (.skip))) (.seq (.reg 0 [.o 0 (.lt (some 19) (.mov (.tmp 5))),
    .o 1 (.lt (some 20) (.bin .eql (.tmp 19) (.const (.int .i64 0)))),
    .o 2 (.lt (some 4) (.mov (.tmp 20))),
    .g (.keep [4])]) (.ret))))
def model_reif.rs : List Rs := [.sl 4]
theorem model_reif.ok : isFn Try.prog model_reif.id 21 model_reif.ann model_reif.ir model_reif.rs := ⟨Try.f60, _, Try.func60, rfl, rfl, by kernel_rfl, by kernel_rfl⟩
-- hallmark/model.table
def model_table.ann : List (Nat × RA) := [(0, { gs := [], keep := some [1, 2] }), (1, { gs := [], keep := some [2, 5] }), (2, { gs := [], keep := some [4], aps := [(3, [1000001])] })]
def model_table.ir : C := .seq (.reg 1 [.o 0 (.box (some 2) 0 10 (.tmp 0)),
    .o 1 (.lt (some 4) (.mov (.const (.bool false)))),
    .g (.keep [1, 2])]) (.seq (.reg 1 [.o 0 (.lt (some 6) (.fad (.tmp 2) 7)),
    .o 1 (.lt (some 7) (.ld false 1 (.tmp 6))),
    .o 2 (.lt (some 8) (.mov (.tmp 1))),
    .o 3 (.call (some 9) model_each.id [(.tmp 7), (.tmp 8)]),
    .o 4 (.alloc (some 5) 0 1 [.a (.slice none 0 0)]),
    .o 5 (.store [] 1 (.tmp 5) (.tmp 9)),
    .g (.keep [2, 5])]) (.seq (.reg 0 [.o 0 (.lt (some 10) (.fad (.tmp 2) 9)),
    .o 1 (.lt (some 11) (.ld false 1 (.tmp 10))),
    .o 2 (.lt (some 12) (.mkfn (.func model_table_1.id) [] [(.tmp 5)])),
    .o 3 (.callb (some 13) (.func slices_ContainsFunc_LLint_Lint.id) [(.tmp 11), (.tmp 12)]),
    .o 4 (.lt (some 4) (.mov (.tmp 13))),
    .g (.keep [4])]) (.ret)))
def model_table.rs : List Rs := [.sl 4]
theorem model_table.ok : isFn Try.prog model_table.id 14 model_table.ann model_table.ir model_table.rs := ⟨Try.f61, _, Try.func61, rfl, rfl, by kernel_rfl, by kernel_rfl⟩
-- hallmark/model.count
def model_count.ann : List (Nat × RA) := [(0, { gs := [], keep := some [1, 2] }), (1, { gs := [], keep := some [1, 2, 5] }), (2, { gs := [], keep := some [2, 5, 11, 12, 13] }), (3, { gs := [], keep := some [2, 5, 11, 12, 13, 14] }), (4, { gs := [], keep := some [2, 5, 7, 11, 12, 13] }), (5, { gs := [], keep := some [2, 5, 11, 12, 13, 20] }), (6, { gs := [], keep := some [2, 5, 11, 12, 13] }), (7, { gs := [], keep := some [2, 5, 11, 12, 13] }), (8, { gs := [], keep := some [4] })]
def model_count.b0 : C := .seq (.reg 0 [.o 0 (.lt (some 14) (.bin .lss (.tmp 13) (.tmp 12))),
    .g (.keep [2, 5, 11, 12, 13, 14])]) (.seq (.cond (.tmp 14) (.skip) (.exit 0)) (.seq (.block 1 (.seq (.reg 0 [.o 0 (.lt (some 15) (.ixS 1 (.tmp 11) (.tmp 13))),
    .o 1 (.lt (some 16) (.ld false 1 (.tmp 15))),
    .o 2 (.lt (some 7) (.mov (.tmp 16))),
    .g (.keep [2, 5, 7, 11, 12, 13])]) (.seq (.reg 0 [.o 0 (.lt (some 17) (.mov (.tmp 7))),
    .o 1 (.lt (some 18) (.fad (.tmp 2) 4)),
    .o 2 (.lt (some 19) (.ld false 1 (.tmp 18))),
    .o 3 (.lt (some 20) (.bin .eql (.tmp 17) (.tmp 19))),
    .g (.keep [2, 5, 11, 12, 13, 20])]) (.cond (.tmp 20) (.reg 0 [.o 0 (.lt (some 21) (.mov (.tmp 5))),
    .o 1 (.lt (some 22) (.bin .add (.tmp 21) (.const (.int .i64 1)))),
    .o 2 (.lt (some 5) (.mov (.tmp 22))),
    .g (.keep [2, 5, 11, 12, 13])]) (.skip))))) (.reg 0 [.o 0 (.lt (some 23) (.bin .add (.tmp 13) (.const (.int .i64 1)))),
    .o 1 (.lt (some 13) (.mov (.tmp 23))),
    .g (.keep [2, 5, 11, 12, 13])])))
def model_count.ir : C := .seq (.reg 1 [.o 0 (.box (some 2) 0 10 (.tmp 0)),
    .o 1 (.lt (some 4) (.mov (.const (.bool false)))),
    .g (.keep [1, 2])]) (.seq (.reg 0 [.o 0 (.lt (some 5) (.mov (.const (.int .i64 0)))),
    .g (.keep [1, 2, 5])]) (.seq (.seq (.reg 0 [.o 0 (.lt (some 8) (.fad (.tmp 2) 7)),
    .o 1 (.lt (some 9) (.ld false 1 (.tmp 8))),
    .o 2 (.lt (some 10) (.mov (.tmp 1))),
    .o 3 (.call (some 11) model_each.id [(.tmp 9), (.tmp 10)]),
    .o 4 (.lt (some 12) (.lenSl (.tmp 11))),
    .o 5 (.lt (some 13) (.mov (.const (.int .i64 0)))),
    .g (.keep [2, 5, 11, 12, 13])]) (.block 0 (.loop model_count.b0))) (.seq (.reg 0 [.o 0 (.lt (some 24) (.fad (.tmp 2) 1)),
    .o 1 (.lt (some 25) (.ld false 1 (.tmp 24))),
    .o 2 (.lt (some 26) (.mov (.tmp 5))),
    .o 3 (.lt (some 27) (.fad (.tmp 2) 3)),
    .o 4 (.lt (some 28) (.ld false 1 (.tmp 27))),
    .o 5 (.call (some 29) model_is.id [(.tmp 25), (.tmp 26), (.tmp 28)]),
    .o 6 (.lt (some 4) (.mov (.tmp 29))),
    .g (.keep [4])]) (.ret))))
def model_count.rs : List Rs := [.sl 4]
theorem model_count.ok : isFn Try.prog model_count.id 30 model_count.ann model_count.ir model_count.rs := ⟨Try.f62, _, Try.func62, rfl, rfl, by kernel_rfl, by kernel_rfl⟩
-- hallmark/model.wide$1
def model_wide_1.ann : List (Nat × RA) := [(0, { gs := [], keep := some [0, 1] }), (1, { gs := [], keep := some [3] })]
def model_wide_1.ir : C := .seq (.reg 0 [.o 0 (.lt (some 3) (.mov (.const (.bool false)))),
    .g (.keep [0, 1])]) (.seq (.reg 0 [.o 0 (.lt (some 4) (.mov (.tmp 0))),
    .o 1 (.lt (some 5) (.lenSl (.tmp 4))),
    .o 2 (.lt (some 6) (.fad (.tmp 1) 7)),
    .o 3 (.lt (some 7) (.ld false 1 (.tmp 6))),
    .o 4 (.lt (some 8) (.lenSl (.tmp 7))),
    .o 5 (.lt (some 9) (.bin .neq (.tmp 5) (.tmp 8))),
    .o 6 (.lt (some 3) (.mov (.tmp 9))),
    .g (.keep [3])]) (.ret))
def model_wide_1.rs : List Rs := [.sl 3]
theorem model_wide_1.ok : isFn Try.prog model_wide_1.id 10 model_wide_1.ann model_wide_1.ir model_wide_1.rs := ⟨Try.f63, _, Try.func63, rfl, rfl, by kernel_rfl, by kernel_rfl⟩
-- slices.IndexFunc[[]int,int]
def slices_IndexFunc_Lint_int.ann : List (Nat × RA) := [(0, { gs := [], keep := some [0, 1] }), (1, { gs := [], keep := some [0, 1, 7, 8] }), (2, { gs := [], keep := some [0, 1, 7, 8, 9] }), (3, { gs := [], keep := some [0, 1, 5, 7, 8] }), (4, { gs := [], keep := some [0, 1, 5, 7, 8, 16] }), (5, { gs := [], keep := some [4] }), (6, { gs := [], keep := some [0, 1, 7, 8] }), (7, { gs := [], keep := some [4] })]
def slices_IndexFunc_Lint_int.b0 : C := .seq (.reg 0 [.o 0 (.lt (some 9) (.bin .lss (.tmp 8) (.tmp 7))),
    .g (.keep [0, 1, 7, 8, 9])]) (.seq (.cond (.tmp 9) (.skip) (.exit 0)) (.seq (.block 1 (.seq (.reg 0 [.o 0 (.lt (some 10) (.mov (.tmp 8))),
    .o 1 (.lt (some 5) (.mov (.tmp 10))),
    .g (.keep [0, 1, 5, 7, 8])]) (.seq (.reg 0 [.o 0 (.lt (some 11) (.mov (.tmp 1))),
    .o 1 (.lt (some 12) (.mov (.tmp 0))),
    .o 2 (.lt (some 13) (.mov (.tmp 5))),
    .o 3 (.lt (some 14) (.ixS 1 (.tmp 12) (.tmp 13))),
    .o 4 (.lt (some 15) (.ld false 1 (.tmp 14))),
    .o 5 (.callv (some 16) (.tmp 11) [(.tmp 15)]),
    .g (.keep [0, 1, 5, 7, 8, 16])]) (.cond (.tmp 16) (.seq (.reg 0 [.o 0 (.lt (some 17) (.mov (.tmp 5))),
    .o 1 (.lt (some 4) (.mov (.tmp 17))),
    .g (.keep [4])]) (.ret)) (.skip))))) (.reg 0 [.o 0 (.lt (some 18) (.bin .add (.tmp 8) (.const (.int .i64 1)))),
    .o 1 (.lt (some 8) (.mov (.tmp 18))),
    .g (.keep [0, 1, 7, 8])])))
def slices_IndexFunc_Lint_int.ir : C := .seq (.reg 0 [.o 0 (.lt (some 4) (.mov (.const (.int .i64 0)))),
    .g (.keep [0, 1])]) (.seq (.seq (.reg 0 [.o 0 (.lt (some 6) (.mov (.tmp 0))),
    .o 1 (.lt (some 7) (.lenSl (.tmp 6))),
    .o 2 (.lt (some 8) (.mov (.const (.int .i64 0)))),
    .g (.keep [0, 1, 7, 8])]) (.block 0 (.loop slices_IndexFunc_Lint_int.b0))) (.seq (.reg 0 [.o 0 (.lt (some 4) (.mov (.const (.int .i64 (-1))))),
    .g (.keep [4])]) (.ret)))
def slices_IndexFunc_Lint_int.rs : List Rs := [.sl 4]
theorem slices_IndexFunc_Lint_int.ok : isFn Try.prog slices_IndexFunc_Lint_int.id 19 slices_IndexFunc_Lint_int.ann slices_IndexFunc_Lint_int.ir slices_IndexFunc_Lint_int.rs := ⟨Try.f64, _, Try.func64, rfl, rfl, by kernel_rfl, by kernel_rfl⟩
-- hallmark/model.great$1
def model_great_1.ann : List (Nat × RA) := [(0, { gs := [], keep := some [0] }), (1, { gs := [], keep := some [2] })]
def model_great_1.ir : C := .seq (.reg 0 [.o 0 (.lt (some 2) (.mov (.const (.bool false)))),
    .g (.keep [0])]) (.seq (.reg 0 [.o 0 (.lt (some 3) (.mov (.tmp 0))),
    .o 1 (.call (some 4) model_within.id [(.tmp 3), (.const (.int .i64 1000000000))]),
    .o 2 (.lt (some 5) (.un .not (.tmp 4))),
    .o 3 (.lt (some 2) (.mov (.tmp 5))),
    .g (.keep [2])]) (.ret))
def model_great_1.rs : List Rs := [.sl 2]
theorem model_great_1.ok : isFn Try.prog model_great_1.id 6 model_great_1.ann model_great_1.ir model_great_1.rs := ⟨Try.f65, _, Try.func65, rfl, rfl, by kernel_rfl, by kernel_rfl⟩
-- slices.IndexFunc[[][]int,[]int]
def slices_IndexFunc_LLint_Lint.ann : List (Nat × RA) := [(0, { gs := [], keep := some [0, 1] }), (1, { gs := [], keep := some [0, 1, 7, 8] }), (2, { gs := [], keep := some [0, 1, 7, 8, 9] }), (3, { gs := [], keep := some [0, 1, 5, 7, 8] }), (4, { gs := [], keep := some [0, 1, 5, 7, 8, 16] }), (5, { gs := [], keep := some [4] }), (6, { gs := [], keep := some [0, 1, 7, 8] }), (7, { gs := [], keep := some [4] })]
def slices_IndexFunc_LLint_Lint.b0 : C := .seq (.reg 0 [.o 0 (.lt (some 9) (.bin .lss (.tmp 8) (.tmp 7))),
    .g (.keep [0, 1, 7, 8, 9])]) (.seq (.cond (.tmp 9) (.skip) (.exit 0)) (.seq (.block 1 (.seq (.reg 0 [.o 0 (.lt (some 10) (.mov (.tmp 8))),
    .o 1 (.lt (some 5) (.mov (.tmp 10))),
    .g (.keep [0, 1, 5, 7, 8])]) (.seq (.reg 0 [.o 0 (.lt (some 11) (.mov (.tmp 1))),
    .o 1 (.lt (some 12) (.mov (.tmp 0))),
    .o 2 (.lt (some 13) (.mov (.tmp 5))),
    .o 3 (.lt (some 14) (.ixS 1 (.tmp 12) (.tmp 13))),
    .o 4 (.lt (some 15) (.ld false 1 (.tmp 14))),
    .o 5 (.callv (some 16) (.tmp 11) [(.tmp 15)]),
    .g (.keep [0, 1, 5, 7, 8, 16])]) (.cond (.tmp 16) (.seq (.reg 0 [.o 0 (.lt (some 17) (.mov (.tmp 5))),
    .o 1 (.lt (some 4) (.mov (.tmp 17))),
    .g (.keep [4])]) (.ret)) (.skip))))) (.reg 0 [.o 0 (.lt (some 18) (.bin .add (.tmp 8) (.const (.int .i64 1)))),
    .o 1 (.lt (some 8) (.mov (.tmp 18))),
    .g (.keep [0, 1, 7, 8])])))
def slices_IndexFunc_LLint_Lint.ir : C := .seq (.reg 0 [.o 0 (.lt (some 4) (.mov (.const (.int .i64 0)))),
    .g (.keep [0, 1])]) (.seq (.seq (.reg 0 [.o 0 (.lt (some 6) (.mov (.tmp 0))),
    .o 1 (.lt (some 7) (.lenSl (.tmp 6))),
    .o 2 (.lt (some 8) (.mov (.const (.int .i64 0)))),
    .g (.keep [0, 1, 7, 8])]) (.block 0 (.loop slices_IndexFunc_LLint_Lint.b0))) (.seq (.reg 0 [.o 0 (.lt (some 4) (.mov (.const (.int .i64 (-1))))),
    .g (.keep [4])]) (.ret)))
def slices_IndexFunc_LLint_Lint.rs : List Rs := [.sl 4]
theorem slices_IndexFunc_LLint_Lint.ok : isFn Try.prog slices_IndexFunc_LLint_Lint.id 19 slices_IndexFunc_LLint_Lint.ann slices_IndexFunc_LLint_Lint.ir slices_IndexFunc_LLint_Lint.rs := ⟨Try.f66, _, Try.func66, rfl, rfl, by kernel_rfl, by kernel_rfl⟩
-- hallmark/model.is
def model_is.ann : List (Nat × RA) := [(0, { gs := [], keep := some [0, 1, 2] }), (1, { gs := [], keep := some [1, 2, 7] }), (2, { gs := [], keep := some [1, 2, 7, 8] }), (3, { gs := [], keep := some [6] }), (4, { gs := [], keep := some [1, 2, 13] }), (5, { gs := [], keep := some [6] }), (6, { gs := [], keep := some [6] })]
def model_is.ir : C := .seq (.reg 0 [.o 0 (.lt (some 6) (.mov (.const (.bool false)))),
    .g (.keep [0, 1, 2])]) (.seq (.seq (.reg 0 [.o 0 (.lt (some 7) (.mov (.tmp 0))),
    .g (.keep [1, 2, 7])]) (.block 0 (.seq (.reg 0 [.o 0 (.lt (some 9) (.bin .eql (.tmp 7) (.const (.int .i64 1)))),
    .o 1 (.lt (some 8) (.mov (.tmp 9))),
    .g (.keep [1, 2, 7, 8])]) (.cond (.tmp 8) (.seq (.reg 0 [.o 0 (.lt (some 10) (.mov (.tmp 1))),
    .o 1 (.lt (some 11) (.mov (.tmp 2))),
    .o 2 (.lt (some 12) (.bin .leq (.tmp 10) (.tmp 11))),
    .o 3 (.lt (some 6) (.mov (.tmp 12))),
    .g (.keep [6])]) (.ret)) (.seq (.reg 0 [.o 0 (.lt (some 14) (.bin .eql (.tmp 7) (.const (.int .i64 3)))),
    .o 1 (.lt (some 13) (.mov (.tmp 14))),
    .g (.keep [1, 2, 13])]) (.cond (.tmp 13) (.seq (.reg 0 [.o 0 (.lt (some 15) (.mov (.tmp 1))),
    .o 1 (.lt (some 16) (.mov (.tmp 2))),
    .o 2 (.lt (some 17) (.bin .geq (.tmp 15) (.tmp 16))),
    .o 3 (.lt (some 6) (.mov (.tmp 17))),
    .g (.keep [6])]) (.ret)) (.skip))))))) (.seq (.reg 0 [.o 0 (.lt (some 18) (.mov (.tmp 1))),
    .o 1 (.lt (some 19) (.mov (.tmp 2))),
    .o 2 (.lt (some 20) (.bin .eql (.tmp 18) (.tmp 19))),
    .o 3 (.lt (some 6) (.mov (.tmp 20))),
    .g (.keep [6])]) (.ret)))
def model_is.rs : List Rs := [.sl 6]
theorem model_is.ok : isFn Try.prog model_is.id 21 model_is.ann model_is.ir model_is.rs := ⟨Try.f67, _, Try.func67, rfl, rfl, by kernel_rfl, by kernel_rfl⟩
-- hallmark/model.sum
def model_sum.ann : List (Nat × RA) := [(0, { gs := [], keep := some [0, 1] }), (1, { gs := [], keep := some [0, 1, 5] }), (2, { gs := [], keep := some [1, 5, 8, 9, 10] }), (3, { gs := [], keep := some [1, 5, 8, 9, 10, 11] }), (4, { gs := [], keep := some [1, 5, 7, 8, 9, 10] }), (5, { gs := [], keep := some [1, 5, 8, 9, 10], ord := [0, 1, 2, 3, 4, 5, 6, 7, 8, 9] }), (6, { gs := [], keep := some [1, 5, 8, 9, 10] }), (7, { gs := [], keep := some [4] })]
def model_sum.b0 : C := .seq (.reg 0 [.o 0 (.lt (some 11) (.bin .lss (.tmp 10) (.tmp 9))),
    .g (.keep [1, 5, 8, 9, 10, 11])]) (.seq (.cond (.tmp 11) (.skip) (.exit 0)) (.seq (.block 1 (.seq (.reg 1 [.o 0 (.lt (some 12) (.ixS 2 (.tmp 8) (.tmp 10))),
    .o 1 (.lt (some 13) (.ld true 2 (.tmp 12))),
    .o 2 (.alloc (some 7) 0 2 [.a (.int .i64 0), .a (.int .i64 0)]),
    .o 3 (.store [] 2 (.tmp 7) (.tmp 13)),
    .g (.keep [1, 5, 7, 8, 9, 10])]) (.reg 0 [.o 0 (.lt (some 14) (.mov (.tmp 5))),
    .o 1 (.lt (some 15) (.fad (.tmp 7) 0)),
    .o 2 (.lt (some 16) (.ld false 1 (.tmp 15))),
    .o 3 (.lt (some 17) (.mov (.tmp 1))),
    .o 4 (.lt (some 18) (.fad (.tmp 7) 1)),
    .o 5 (.lt (some 19) (.ld false 1 (.tmp 18))),
    .o 6 (.callv (some 20) (.tmp 17) [(.tmp 19)]),
    .o 7 (.lt (some 21) (.bin .mul (.tmp 16) (.tmp 20))),
    .o 8 (.lt (some 22) (.bin .add (.tmp 14) (.tmp 21))),
    .o 9 (.lt (some 5) (.mov (.tmp 22))),
    .g (.keep [1, 5, 8, 9, 10])]))) (.reg 0 [.o 0 (.lt (some 23) (.bin .add (.tmp 10) (.const (.int .i64 1)))),
    .o 1 (.lt (some 10) (.mov (.tmp 23))),
    .g (.keep [1, 5, 8, 9, 10])])))
def model_sum.ir : C := .seq (.reg 0 [.o 0 (.lt (some 4) (.mov (.const (.int .i64 0)))),
    .g (.keep [0, 1])]) (.seq (.reg 0 [.o 0 (.lt (some 5) (.mov (.const (.int .i64 0)))),
    .g (.keep [0, 1, 5])]) (.seq (.seq (.reg 0 [.o 0 (.lt (some 8) (.mov (.tmp 0))),
    .o 1 (.lt (some 9) (.lenSl (.tmp 8))),
    .o 2 (.lt (some 10) (.mov (.const (.int .i64 0)))),
    .g (.keep [1, 5, 8, 9, 10])]) (.block 0 (.loop model_sum.b0))) (.seq (.reg 0 [.o 0 (.lt (some 24) (.mov (.tmp 5))),
    .o 1 (.lt (some 4) (.mov (.tmp 24))),
    .g (.keep [4])]) (.ret))))
def model_sum.rs : List Rs := [.sl 4]
theorem model_sum.ok : isFn Try.prog model_sum.id 25 model_sum.ann model_sum.ir model_sum.rs := ⟨Try.f68, _, Try.func68, rfl, rfl, by kernel_rfl, by kernel_rfl⟩
-- slices.Compact[[]int,int]
def slices_Compact_Lint_int.ann : List (Nat × RA) := [(0, { gs := [], keep := some [0] }), (1, { gs := [], keep := some [0, 8] }), (2, { gs := [], keep := some [2] }), (3, { gs := [], keep := some [0, 3] }), (4, { gs := [], keep := some [0, 3, 13] }), (5, { gs := [], keep := some [0, 3] }), (6, { gs := [], keep := some [0, 3, 25], ord := [0, 1, 2, 3, 4, 5, 6, 7, 8, 9] }), (7, { gs := [], keep := some [0, 3, 4] }), (8, { gs := [], keep := some [0, 3, 4, 5] }), (9, { gs := [], keep := some [0, 3, 4, 5, 32] }), (10, { gs := [], keep := some [0, 3, 4, 5] }), (11, { gs := [], keep := some [0, 3, 4, 5, 44], ord := [0, 1, 2, 3, 4, 5, 6, 7, 8, 9] }), (12, { gs := [], keep := some [0, 3, 4, 5] }), (13, { gs := [], keep := some [0, 3, 4, 5] }), (14, { gs := [], keep := some [0, 3] }), (15, { gs := [], keep := some [2] }), (16, { gs := [], keep := some [2] })]
def slices_Compact_Lint_int.b1 : C := .seq (.seq (.reg 0 [.o 0 (.lt (some 29) (.mov (.tmp 5))),
    .o 1 (.lt (some 30) (.mov (.tmp 4))),
    .o 2 (.lt (some 31) (.lenSl (.tmp 30))),
    .o 3 (.lt (some 32) (.bin .lss (.tmp 29) (.tmp 31))),
    .g (.keep [0, 3, 4, 5, 32])]) (.cond (.tmp 32) (.skip) (.exit 2))) (.seq (.block 3 (.seq (.reg 0 [.o 0 (.lt (some 35) (.mov (.tmp 4))),
    .o 1 (.lt (some 36) (.mov (.tmp 5))),
    .o 2 (.lt (some 37) (.ixS 1 (.tmp 35) (.tmp 36))),
    .o 3 (.lt (some 38) (.ld false 1 (.tmp 37))),
    .o 4 (.lt (some 39) (.mov (.tmp 4))),
    .o 5 (.lt (some 40) (.mov (.tmp 5))),
    .o 6 (.lt (some 41) (.bin .sub (.tmp 40) (.const (.int .i64 1)))),
    .o 7 (.lt (some 42) (.ixS 1 (.tmp 39) (.tmp 41))),
    .o 8 (.lt (some 43) (.ld false 1 (.tmp 42))),
    .o 9 (.lt (some 44) (.bin .neq (.tmp 38) (.tmp 43))),
    .g (.keep [0, 3, 4, 5, 44])]) (.cond (.tmp 44) (.seq (.reg 0 [.o 0 (.lt (some 45) (.mov (.tmp 0))),
    .o 1 (.lt (some 46) (.mov (.tmp 3))),
    .o 2 (.lt (some 47) (.mov (.tmp 4))),
    .o 3 (.lt (some 48) (.mov (.tmp 5))),
    .o 4 (.lt (some 49) (.ixS 1 (.tmp 47) (.tmp 48))),
    .o 5 (.lt (some 50) (.ld false 1 (.tmp 49))),
    .o 6 (.lt (some 51) (.ixS 1 (.tmp 45) (.tmp 46))),
    .o 7 (.store [] 1 (.tmp 51) (.tmp 50)),
    .g (.keep [0, 3, 4, 5])]) (.reg 0 [.o 0 (.lt (some 52) (.mov (.tmp 3))),
    .o 1 (.lt (some 53) (.bin .add (.tmp 52) (.const (.int .i64 1)))),
    .o 2 (.lt (some 3) (.mov (.tmp 53))),
    .g (.keep [0, 3, 4, 5])])) (.skip)))) (.reg 0 [.o 0 (.lt (some 33) (.mov (.tmp 5))),
    .o 1 (.lt (some 34) (.bin .add (.tmp 33) (.const (.int .i64 1)))),
    .o 2 (.lt (some 5) (.mov (.tmp 34))),
    .g (.keep [0, 3, 4, 5])]))
def slices_Compact_Lint_int.b0 : C := .seq (.seq (.reg 0 [.o 0 (.lt (some 10) (.mov (.tmp 3))),
    .o 1 (.lt (some 11) (.mov (.tmp 0))),
    .o 2 (.lt (some 12) (.lenSl (.tmp 11))),
    .o 3 (.lt (some 13) (.bin .lss (.tmp 10) (.tmp 12))),
    .g (.keep [0, 3, 13])]) (.cond (.tmp 13) (.skip) (.exit 0))) (.seq (.block 1 (.seq (.reg 0 [.o 0 (.lt (some 16) (.mov (.tmp 0))),
    .o 1 (.lt (some 17) (.mov (.tmp 3))),
    .o 2 (.lt (some 18) (.ixS 1 (.tmp 16) (.tmp 17))),
    .o 3 (.lt (some 19) (.ld false 1 (.tmp 18))),
    .o 4 (.lt (some 20) (.mov (.tmp 0))),
    .o 5 (.lt (some 21) (.mov (.tmp 3))),
    .o 6 (.lt (some 22) (.bin .sub (.tmp 21) (.const (.int .i64 1)))),
    .o 7 (.lt (some 23) (.ixS 1 (.tmp 20) (.tmp 22))),
    .o 8 (.lt (some 24) (.ld false 1 (.tmp 23))),
    .o 9 (.lt (some 25) (.bin .eql (.tmp 19) (.tmp 24))),
    .g (.keep [0, 3, 25])]) (.cond (.tmp 25) (.seq (.reg 0 [.o 0 (.lt (some 26) (.mov (.tmp 0))),
    .o 1 (.lt (some 27) (.mov (.tmp 3))),
    .o 2 (.lt (some 28) (.slSl 1 (.tmp 26) (some (.tmp 27)) none)),
    .o 3 (.lt (some 4) (.mov (.tmp 28))),
    .g (.keep [0, 3, 4])]) (.seq (.seq (.reg 0 [.o 0 (.lt (some 5) (.mov (.const (.int .i64 1)))),
    .g (.keep [0, 3, 4, 5])]) (.block 2 (.loop slices_Compact_Lint_int.b1))) (.seq (.reg 0 [.o 0 (.lt (some 54) (.mov (.tmp 0))),
    .o 1 (.lt (some 55) (.mov (.tmp 3))),
    .o 2 (.lt (some 56) (.slSl 1 (.tmp 54) (some (.tmp 55)) none)),
    .o 3 (.clr none 1 [.a (.int .i64 0)] (.tmp 56)),
    .g (.keep [0, 3])]) (.seq (.reg 0 [.o 0 (.lt (some 57) (.mov (.tmp 0))),
    .o 1 (.lt (some 58) (.mov (.tmp 3))),
    .o 2 (.lt (some 59) (.slSl 1 (.tmp 57) none (some (.tmp 58)))),
    .o 3 (.lt (some 2) (.mov (.tmp 59))),
    .g (.keep [2])]) (.ret))))) (.skip)))) (.reg 0 [.o 0 (.lt (some 14) (.mov (.tmp 3))),
    .o 1 (.lt (some 15) (.bin .add (.tmp 14) (.const (.int .i64 1)))),
    .o 2 (.lt (some 3) (.mov (.tmp 15))),
    .g (.keep [0, 3])]))
def slices_Compact_Lint_int.ir : C := .seq (.reg 0 [.o 0 (.lt (some 2) (.mov (.const (.slice none 0 0)))),
    .g (.keep [0])]) (.seq (.seq (.reg 0 [.o 0 (.lt (some 6) (.mov (.tmp 0))),
    .o 1 (.lt (some 7) (.lenSl (.tmp 6))),
    .o 2 (.lt (some 8) (.bin .lss (.tmp 7) (.const (.int .i64 2)))),
    .g (.keep [0, 8])]) (.cond (.tmp 8) (.seq (.reg 0 [.o 0 (.lt (some 9) (.mov (.tmp 0))),
    .o 1 (.lt (some 2) (.mov (.tmp 9))),
    .g (.keep [2])]) (.ret)) (.skip))) (.seq (.seq (.reg 0 [.o 0 (.lt (some 3) (.mov (.const (.int .i64 1)))),
    .g (.keep [0, 3])]) (.block 0 (.loop slices_Compact_Lint_int.b0))) (.seq (.reg 0 [.o 0 (.lt (some 60) (.mov (.tmp 0))),
    .o 1 (.lt (some 2) (.mov (.tmp 60))),
    .g (.keep [2])]) (.ret))))
def slices_Compact_Lint_int.rs : List Rs := [.sl 2]
theorem slices_Compact_Lint_int.ok : isFn Try.prog slices_Compact_Lint_int.id 61 slices_Compact_Lint_int.ann slices_Compact_Lint_int.ir slices_Compact_Lint_int.rs := ⟨Try.f70, _, Try.func70, rfl, rfl, by kernel_rfl, by kernel_rfl⟩
-- hallmark/model.table$1
def model_table_1.ann : List (Nat × RA) := [(0, { gs := [], keep := some [0, 1] }), (1, { gs := [], keep := some [3] })]
def model_table_1.ir : C := .seq (.reg 0 [.o 0 (.lt (some 3) (.mov (.const (.bool false)))),
    .g (.keep [0, 1])]) (.seq (.reg 0 [.o 0 (.lt (some 4) (.mov (.tmp 0))),
    .o 1 (.lt (some 5) (.ld false 1 (.tmp 1))),
    .o 2 (.call (some 6) slices_Equal_Lint_int.id [(.tmp 4), (.tmp 5)]),
    .o 3 (.lt (some 3) (.mov (.tmp 6))),
    .g (.keep [3])]) (.ret))
def model_table_1.rs : List Rs := [.sl 3]
theorem model_table_1.ok : isFn Try.prog model_table_1.id 7 model_table_1.ann model_table_1.ir model_table_1.rs := ⟨Try.f71, _, Try.func71, rfl, rfl, by kernel_rfl, by kernel_rfl⟩
end Go.Abs.G

/- Words for the evaluation of functions. -/
namespace Go.Abs
set_option linter.unusedVariables false

section
variable {P : Program} {Q : Ex → St → Prop} {st : St} {x : Operand} {a b : C} {k : St → Prop} {l : List It} {j t : Nat} {want : Bool} {d : Option Nat} {i : I}
@[simp ↓ high] theorem vc_cond_true (h : st.ev x = .a (.bool true)) : vc P (.cond x a b) Q st = vc P a Q st := by simp only [vc, h]; simp
@[simp ↓ high] theorem vc_cond_false (h : st.ev x = .a (.bool false)) : vc P (.cond x a b) Q st = vc P b Q st := by simp only [vc, h]; simp
@[simp ↓ high] theorem vcIts_gd_pos (h : gt st.sl t = .a (.bool want)) : vcIts P (.gd j t want d i :: l) k st = i.vc P (vcIts P l k) (st.put (some t) (.bool want)) := by
  simp only [vcIts, h]; cases want <;> simp [St.put]
@[simp ↓ high] theorem vcIts_gd_neg (h : gt st.sl t = .a (.bool (!want))) : vcIts P (.gd j t want d i :: l) k st = vcIts P l k ((st.put (some t) (.bool !want)).put d (.a undef)) := by
  simp only [vcIts, h]; cases want <;> simp [St.put]
@[simp ↓ high] theorem vcIts_gd_un (h : gt st.sl t = .a (.tuple #[])) : vcIts P (.gd j t want d i :: l) k st = vcIts P l k (st.put d (.a undef)) := by simp only [vcIts, h]
end

attribute [simp] vc vcIts L.pre L.val St.ev cv gt_up gt_e0 keepS St.put St.res binV binP binI binIP V.isBool V.isInt V.num V.tru V.fzP V.fz V.kindOf okNil okAt O.isMem O.isMap O.rows O.refs O.ents V.plus ldP ldV cellsAt
  V.sized V.one Value.oneCell' rowSet addRefs V.idsL V.ids V.cells okSl V.slEs V.slLen V.elemAt V.isStr V.txt V.entsOf okMp isK eqK V.nilK okZ V.rowsOf V.rowIds chunk fillV V.oid V.nilSl V.isA V.cut optN optP initS
  resP resV Rs.ok Rs.val V.fzPL V.fzL trimS_up trimS_e0 lim binS binSP St.trim limO O.fz Heap.fz mxI putE V.isByte

attribute [simp] undef I.bsvV addAll idx back V.renL V.ren O.ren V.flat V.flatL

section
variable (r : List Nat) (x : List (List Ce)) (y : List (List V)) (b : Bool)
@[simp] theorem isTree_tree : (O.tree r x).isTree = true := rfl
@[simp] theorem trows_tree : (O.tree r x).trows = x.length := rfl
@[simp] theorem isTree_mem : (O.mem b r y).isTree = false := rfl
@[simp] theorem isTree_dead : O.dead.isTree = false := rfl
@[simp] theorem isTree_res : O.res.isTree = false := rfl
end

@[congr] theorem vc_congr {P : Program} {c : C} {Q : Ex → St → Prop} {st st' : St} (h : st = st') : vc P c Q st = vc P c Q st' := by rw [h]
@[congr] theorem vcIts_congr {P : Program} {l : List It} {k : St → Prop} {st st' : St} (h : st = st') : vcIts P l k st = vcIts P l k st' := by rw [h]
@[congr] theorem Ivc_congr {P : Program} {i : I} {k : St → Prop} {st st' : St} (h : st = st') : i.vc P k st = i.vc P k st' := by rw [h]
@[congr] theorem WI_congr {P : Program} {c : C} {Q : Ex → St → Prop} {st st' : St} (h : st = st') : WI P c Q st = WI P c Q st' := by rw [h]
@[congr] theorem DP_congr {P : Program} {f : FuncId} {Q : V → Prop} {xs xs' : List V} (h : xs = xs') : DP P f xs Q = DP P f xs' Q := by rw [h]
@[congr] theorem DC_congr {P : Program} {f : FuncId} {Q : V → Heap → Prop} {xs xs' : List V} {H H' : Heap} (h : xs = xs') (hh : H = H') : DC P f xs H Q = DC P f xs' H' Q := by rw [h, hh]

theorem addAll_sub : ∀ (is l : List Nat), (∀ i ∈ is, i ∈ l) → addAll l is = l := by
  intro is
  induction is with
  | nil => intro l _; rfl
  | cons i is ih =>
    intro l h
    simp only [addAll]
    rw [if_pos (h i (by simp))]
    exact ih l fun k hk => h k (by simp [hk])

@[simp] theorem clos_stop (H : Heap) (n : Nat) (l : List Nat) (h : ∀ i ∈ l, ∀ k ∈ (H.getD i .dead).refs, k ∈ l) : clos H n l = l := by
  induction n with
  | zero => rfl
  | succ n ih =>
    simp only [clos]
    rw [addAll_sub _ _ fun i hi => ?_]
    · exact ih
    · obtain ⟨j, hj, hi⟩ := List.mem_flatMap.1 hi
      exact h j hj i hi

@[simp] theorem okSel_iff (H : Heap) (sel : List Nat) : OkSel H sel ↔ sel.Nodup ∧ (∀ i ∈ sel, i < H.length) ∧ (∀ i ∈ sel, H.getD i .dead ≠ .res) ∧ ∀ i ∈ sel, ∀ k ∈ (H.getD i .dead).refs, k ∈ sel :=
  ⟨fun h => ⟨h.nd, h.lt, h.nres, h.cl⟩, fun h => ⟨h.1, h.2.1, h.2.2.1, h.2.2.2⟩⟩

theorem wrap64 {n : Int} (h1 : -9223372036854775808 ≤ n) (h2 : n ≤ 9223372036854775807) : IntKind.i64.wrap n = n := by
  show (if (true && decide (n % 18446744073709551616 ≥ 9223372036854775808)) = true then n % 18446744073709551616 - 18446744073709551616 else n % 18446744073709551616) = n
  simp only [Bool.true_and, decide_eq_true_eq]
  split <;> omega

end Go.Abs

/- What the row's reading tells, as abstract values. -/
namespace Go.Abs
set_option linter.unusedVariables false

def βz : Nat → Hd := fun _ => ⟨0, 0, 0, 0, 0, false, 0, noSub⟩
def cz (w : World) : Cx := cx w.heap [] βz (fun _ => False)

theorem cz_own (w : World) (b : Nat) : ¬ (cz w).own b := by
  rintro (⟨i, e⟩ | e)
  · simp [ownsB] at e
  · exact e

theorem cz_only {w : World} {v : Value} {x : V} (h : RV (cz w) v x) : RV ((cz w).only []) v x :=
  h.mono ⟨Nat.le_refl _, fun _ _ hn => ⟨rfl, hn⟩, fun i hl => by obtain ⟨o, ho, _⟩ := hl; simp at ho, fun _ _ _ e => .inl e⟩

theorem cz_hok (w : World) : HOK w.heap [] βz (fun _ => False) :=
  ⟨fun id o h => by simp at h, fun id id' b h => by simp [ownsB] at h, fun b h => h.elim⟩

/-- What reads as a value of type t is some x's. -/
def Rd (P : Program) (t : TypeId) (n : Nat) {α : Type} (f : α → List V) (ok : α → Prop) : Prop :=
  P.cellsOf t = n ∧ ∀ (H : Type) (enc : TypeId × Value → H) (w : World) (fuel : Nat) (cs : List Value) (d : DataW H) (ps : List MemPlace), DataW.trod enc P w 0 (fun _ => true) true fuel t cs = some (d, ps) → (∀ q ∈ DataW.weights P t d, q ≤ reachBytes) →
    ∃ x, ok x ∧ (f x).length = n ∧ cs.length = n ∧ ∀ (i : Nat) (v : Value) (y : V), cs[i]? = some v → (f x)[i]? = some y → v.oneCell' = true ∧ RV (cz w) v y

section
variable {P : Program} {t : TypeId}

theorem one_get {v0 : Value} {y0 : V} {w : World} (h1 : v0.oneCell' = true) (h2 : RV (cz w) v0 y0) : ∀ (i : Nat) (v : Value) (y : V), [v0][i]? = some v → [y0][i]? = some y → v.oneCell' = true ∧ RV (cz w) v y := by
  intro i v y a b
  cases i with
  | zero => simp at a b; subst a; subst b; exact ⟨h1, h2⟩
  | succ i => simp at a

theorem Rd.int {k : IntKind} (hu : P.underlying t = some (.int k)) (hc : P.cellsOf t = 1) : Rd P t 1 (fun n : Int => [.a (.int k n)]) (fun n => (Lit.int k n).wf = true) := by
  refine ⟨hc, fun H enc w fuel cs d ps h hwt => ?_⟩
  cases fuel with
  | zero => simp [DataW.trod] at h
  | succ fuel =>
    unfold DataW.trod at h
    rw [hu] at h
    rcases cs with _ | ⟨v, _ | ⟨v2, cs⟩⟩
    · cases h
    · cases v <;> first | cases h | skip
      next k' n =>
      simp only at h
      split at h
      · next hk =>
        obtain ⟨rfl, hk⟩ := hk
        exact ⟨n, hk, rfl, rfl, one_get rfl .a⟩
      · cases h
    · simp at h

theorem Rd.bool (hu : P.underlying t = some .bool) (hc : P.cellsOf t = 1) : Rd P t 1 (fun b : Bool => [.a (.bool b)]) (fun _ => True) := by
  refine ⟨hc, fun H enc w fuel cs d ps h hwt => ?_⟩
  cases fuel with
  | zero => simp [DataW.trod] at h
  | succ fuel =>
    unfold DataW.trod at h
    rw [hu] at h
    rcases cs with _ | ⟨v, _ | ⟨v2, cs⟩⟩
    · cases h
    · cases v <;> first | cases h | skip
      next b => exact ⟨b, trivial, rfl, rfl, one_get rfl .a⟩
    · simp at h

theorem Rd.str (hu : P.underlying t = some .string) (hc : P.cellsOf t = 1) : Rd P t 1 (fun s : ByteArray => [.a (.string s)]) (fun s => s.size ≤ maxLen ∧ s.size ≤ reachBytes) := by
  refine ⟨hc, fun H enc w fuel cs d ps h hwt => ?_⟩
  cases fuel with
  | zero => simp [DataW.trod] at h
  | succ fuel =>
    unfold DataW.trod at h
    rw [hu] at h
    rcases cs with _ | ⟨v, _ | ⟨v2, cs⟩⟩
    · cases h
    · cases v <;> first | cases h | skip
      next s =>
      simp only at h
      split at h
      · next hs =>
        injection h with h
        injection h with h1 h2
        subst h1
        exact ⟨s, ⟨hs, by have := hwt s.data.toList.length (by simp [DataW.weights]); simpa using this⟩, rfl, rfl, one_get rfl .a⟩
      · cases h
    · simp at h

theorem cells?_get {w : World} {a : Addr} {n : Nat} {cs : List Value} (h : w.cells? 0 a n = some cs) : cs.length = n ∧ ∀ (i : Nat) (v : Value), cs[i]? = some v → look w.heap a.block (a.off + i) = some v ∧ (i = 0 → a.spot = none) := by
  unfold World.cells? at h
  rw [if_pos (Nat.zero_le _)] at h
  obtain ⟨h1, h2⟩ := mapM_some h
  have hl : cs.length = n := by rw [h1]; simp
  refine ⟨hl, fun i v hv => ?_⟩
  have hi : i < n := by rw [← hl]; exact lt_of_get hv
  obtain ⟨y, hy, hc⟩ := h2 i i (List.getElem?_range hi)
  rw [hv] at hy; injection hy with hy; subst hy
  have hadd : (a.add i).block = a.block ∧ ((a.add i).spot = none → (i = 0 → a.spot = none) ∧ (a.add i).off = a.off + i) := by
    unfold Addr.add
    split
    · next e => subst e; exact ⟨rfl, fun h => ⟨fun _ => h, by simp⟩⟩
    · next e => exact ⟨rfl, fun h => ⟨fun e' => (e e').elim, rfl⟩⟩
  unfold World.cell? at hc
  rw [hadd.1] at hc
  split at hc
  · next c _ _ hb =>
    split at hc
    · cases hc
    · next hs =>
      have hs : (a.add i).spot = none := by simpa using hs
      obtain ⟨g1, g2⟩ := hadd.2 hs
      rw [g2] at hc
      exact ⟨by unfold look; rw [hb]; exact hc, g1⟩
  · cases hc

theorem all_choice {α β : Type} {R : Nat → α → β → Prop} : ∀ (l : List α) (k : Nat), (∀ (i : Nat) (x : α), l[i]? = some x → ∃ y, R (k + i) x y) → ∃ r : List β, r.length = l.length ∧ ∀ (i : Nat) (x : α) (y : β), l[i]? = some x → r[i]? = some y → R (k + i) x y := by
  intro l
  induction l with
  | nil => intro k _; exact ⟨[], rfl, fun i x y h => by simp at h⟩
  | cons a l ih =>
    intro k h
    obtain ⟨y, hy⟩ := h 0 a rfl
    obtain ⟨r, h1, h2⟩ := ih (k + 1) fun i x hx => by
      obtain ⟨y, hy⟩ := h (i + 1) x hx
      exact ⟨y, by rw [show k + 1 + i = k + (i + 1) from by omega]; exact hy⟩
    refine ⟨y :: r, by simp [h1], fun i x z hx hz => ?_⟩
    cases i with
    | zero => simp at hx hz; subst hx; subst hz; exact hy
    | succ i =>
      have := h2 i x z (by simpa using hx) (by simpa using hz)
      rw [show k + (i + 1) = k + 1 + i from by omega]; exact this

theorem weightsAll_mem {H : Type} {P : Program} {e : TypeId} {l : List (DataW H)} {d : DataW H} {q : Nat} (hd : d ∈ l) (hq : q ∈ DataW.weights P e d) : q ∈ DataW.weightsAll P e l := by
  induction l with
  | nil => cases hd
  | cons a l ih =>
    simp only [DataW.weightsAll, List.mem_append]
    rcases List.mem_cons.1 hd with rfl | hd
    · exact .inl hq
    · exact .inr (ih hd)

theorem Rd.slice {e : TypeId} {n : Nat} {α : Type} {f : α → List V} {ok : α → Prop} (hu : P.underlying t = some (.slice e)) (hc : P.cellsOf t = 1) (hn : 0 < n) (he : Rd P e n f ok) :
    Rd P t 1 (fun l : List α => [.view n (l.map f)]) (fun l => l.length ≤ maxLen ∧ l.length * P.bytesOf e ≤ reachBytes ∧ ∀ x ∈ l, ok x) := by
  refine ⟨hc, fun H enc w fuel cs d ps h hwt => ?_⟩
  obtain ⟨hen, hel⟩ := he
  cases fuel with
  | zero => simp [DataW.trod] at h
  | succ fuel =>
    unfold DataW.trod at h
    rw [hu] at h
    rcases cs with _ | ⟨v, _ | ⟨v2, cs⟩⟩
    · cases h
    · cases v <;> first | cases h | skip
      next base len cap =>
      cases base with
      | none =>
        cases len <;> cases cap <;> first | cases h | skip
        exact ⟨[], ⟨Nat.zero_le _, by simp, by simp⟩, rfl, rfl, one_get rfl .nilv⟩
      | some a =>
        simp only at h
        split at h
        · next hg =>
          obtain ⟨_, hlc, hcm⟩ := hg
          simp only [Option.bind_eq_some_iff, Option.map_eq_some_iff] at h
          obtain ⟨elems, h1, rest, _, hd⟩ := h
          injection hd with hd1 hd2
          subst hd1
          simp only [DataW.weights, hu, List.mem_cons, List.mem_append] at hwt
          obtain ⟨g1, g2⟩ := mapM_some h1
          have hlen : elems.length = len := by rw [g1]; simp
          have hall : ∀ (i : Nat) (x : DataW H × List MemPlace), elems[i]? = some x → ∃ y : α, ok y ∧ (f y).length = n ∧ ∀ (j : Nat) (z : V), (f y)[j]? = some z → ∃ v, look w.heap a.block (a.off + (0 + i) * n + j) = some v ∧ (0 + i = 0 → j = 0 → a.spot = none) ∧ v.oneCell' = true ∧ RV (cz w) v z := by
            intro i x hx
            have hi : i < len := by rw [← hlen]; exact lt_of_get hx
            obtain ⟨y, hy, hc⟩ := g2 i i (List.getElem?_range hi)
            rw [hx] at hy; injection hy with hy; subst hy
            rw [Option.bind_eq_some_iff] at hc
            obtain ⟨ci, hci, htr⟩ := hc
            rw [hen] at hci
            obtain ⟨c1, c2⟩ := cells?_get hci
            obtain ⟨y, k1, k2, k3, k4⟩ := hel H enc w fuel ci _ _ htr fun q hq => hwt q (.inr (.inl (weightsAll_mem (List.mem_map_of_mem (List.mem_of_getElem? hx)) hq)))
            refine ⟨y, k1, k2, fun j z hz => ?_⟩
            have hj : j < ci.length := by rw [k3, ← k2]; exact lt_of_get hz
            have hv := List.getElem?_eq_getElem hj
            obtain ⟨m1, m2⟩ := k4 j _ z hv hz
            obtain ⟨q1, q2⟩ := c2 j _ hv
            have hadd : (a.add (i * n)).block = a.block ∧ (a.add (i * n)).off = a.off + i * n := by
              unfold Addr.add
              split
              · next e => rw [e]; exact ⟨rfl, by simp⟩
              · exact ⟨rfl, rfl⟩
            rw [hadd.1, hadd.2] at q1
            refine ⟨_, by rw [Nat.zero_add]; exact q1, fun e0 e1 => ?_, m1, m2⟩
            have := q2 e1
            rw [show i * n = 0 from by rw [show i = 0 from by omega, Nat.zero_mul]] at this
            unfold Addr.add at this
            simpa using this
          obtain ⟨xs, x1, x2⟩ := all_choice (R := fun i x y => ok y ∧ (f y).length = n ∧ ∀ (j : Nat) (z : V), (f y)[j]? = some z → ∃ v, look w.heap a.block (a.off + i * n + j) = some v ∧ (i = 0 → j = 0 → a.spot = none) ∧ v.oneCell' = true ∧ RV (cz w) v z) elems 0 hall
          have hx : ∀ (i : Nat) (y : α), xs[i]? = some y → ok y ∧ (f y).length = n ∧ ∀ (j : Nat) (z : V), (f y)[j]? = some z → ∃ v, look w.heap a.block (a.off + i * n + j) = some v ∧ (i = 0 → j = 0 → a.spot = none) ∧ v.oneCell' = true ∧ RV (cz w) v z := by
            intro i y hy
            have hi : i < elems.length := by rw [← x1]; exact lt_of_get hy
            have := x2 i _ y (List.getElem?_eq_getElem hi) hy
            rw [Nat.zero_add] at this; exact this
          refine ⟨xs, ⟨by omega, ?_, fun y hy => ?_⟩, rfl, rfl, one_get rfl ?_⟩
          · have h1 := hwt _ (.inl rfl)
            refine Nat.le_trans (Nat.mul_le_mul_right _ ?_) h1
            simp [x1]
          · obtain ⟨i, hi⟩ := List.getElem?_of_mem hy
            exact (hx i y hi).1
          · have hrow : ∀ (i : Nat) (row : List V), (xs.map f)[i]? = some row → row.length = n ∧ ∀ (j : Nat) (z : V), row[j]? = some z → ∃ v, look w.heap a.block (a.off + i * n + j) = some v ∧ (i = 0 → j = 0 → a.spot = none) ∧ v.oneCell' = true ∧ RV (cz w) v z := by
              intro i row hi
              rw [List.getElem?_map, Option.map_eq_some_iff] at hi
              obtain ⟨y, hy, rfl⟩ := hi
              exact (hx i y hy).2
            have hl2 : len = (xs.map f).length := by simp [x1, hlen]
            rw [hl2]
            refine .view (fun i j => (look w.heap a.block (a.off + i * n + j)).getD undef) (fun hne => ?_) (by rw [← hl2]; exact hlc) (fun i row hi => (hrow i row hi).1) (fun i row hi j z hz => ?_) fun i row hi j z hz => ?_
            · have h0 : ∃ row, (xs.map f)[0]? = some row := by
                cases hq : xs.map f with
                | nil => exact (hne hq).elim
                | cons r l => exact ⟨r, rfl⟩
              obtain ⟨row, h0⟩ := h0
              obtain ⟨r1, r2⟩ := hrow 0 row h0
              obtain ⟨v, l1, l2, _⟩ := r2 0 _ (List.getElem?_eq_getElem (by omega))
              refine ⟨cz_own w _, ?_, l2 rfl rfl⟩
              unfold look at l1
              split at l1
              · next hb => exact hp_lt hb
              · cases l1
            · obtain ⟨v, l1, _, l3, _⟩ := (hrow i row hi).2 j z hz
              refine ⟨by show look w.heap _ _ = _; rw [l1]; rfl, by rw [l1]; exact l3⟩
            · obtain ⟨v, l1, _, _, l4⟩ := (hrow i row hi).2 j z hz
              rw [l1]; exact cz_only l4
        · cases h
    · simp at h

end
end Go.Abs

/- What the row's reading tells: structs, arguments. -/
namespace Go.Abs
set_option linter.unusedVariables false

/-- The same of a struct's fields from cell k on. -/
def RdF (P : Program) (fs : List Field) (k : Nat) (n : Nat) {α : Type} (f : α → List V) (ok : α → Prop) : Prop :=
  ∀ (H : Type) (enc : TypeId × Value → H) (w : World) (fuel : Nat) (cs : List Value) (xs : List (DataW H × List MemPlace)), fs.mapM (fun fd => DataW.trod enc P w 0 (fun _ => true) true fuel fd.type ((cs.drop fd.offset).take (P.cellsOf fd.type))) = some xs → (∀ q ∈ DataW.weightsEach P (fs.map (·.type)) (xs.map (·.1)), q ≤ reachBytes) →
    ∃ x, ok x ∧ (f x).length = n ∧ ∀ (i : Nat) (v : Value) (y : V), cs[k + i]? = some v → (f x)[i]? = some y → v.oneCell' = true ∧ RV (cz w) v y

theorem RdF.nil {P : Program} {k : Nat} : RdF P [] k 0 (fun _ : Unit => []) (fun _ => True) :=
  fun H enc w fuel cs xs h _ => ⟨(), trivial, rfl, fun i v y _ h => by simp at h⟩

theorem RdF.cons {P : Program} {fd : Field} {fs : List Field} {k n m : Nat} {α β : Type} {f : α → List V} {ok : α → Prop} {g : β → List V} {ok' : β → Prop} (ho : fd.offset = k) (h1 : Rd P fd.type n f ok) (h2 : RdF P fs (k + n) m g ok') :
    RdF P (fd :: fs) k (n + m) (fun p : α × β => f p.1 ++ g p.2) (fun p => ok p.1 ∧ ok' p.2) := by
  intro H enc w fuel cs xs h hwt
  rw [List.mapM_cons] at h
  simp only [bind, Option.bind_eq_some_iff, pure, Option.some.injEq] at h
  obtain ⟨d, hd, xs', hxs, rfl⟩ := h
  simp only [List.map_cons, DataW.weightsEach, List.mem_append] at hwt
  obtain ⟨x, a1, a2, a3, a4⟩ := h1.2 H enc w fuel _ _ _ hd fun q hq => hwt q (.inl hq)
  obtain ⟨y, b1, b2, b3⟩ := h2 H enc w fuel cs xs' hxs fun q hq => hwt q (.inr hq)
  refine ⟨(x, y), ⟨a1, b1⟩, by simp [a2, b2], fun i v z hv hz => ?_⟩
  rw [List.getElem?_append] at hz
  split at hz
  · next hi =>
    refine a4 i v z ?_ hz
    rw [List.getElem?_take, if_pos (by rw [h1.1, ← a2]; exact hi), List.getElem?_drop, ho]
    exact hv
  · next hi =>
    refine b3 (i - (f x).length) v z ?_ hz
    have hi : ¬ i < (f x).length := hi
    rw [← hv]; congr 1; omega

theorem Rd.struct {P : Program} {t : TypeId} {fs : Array Field} {n : Nat} {α : Type} {f : α → List V} {ok : α → Prop} (hu : P.underlying t = some (.struct fs)) (hc : P.cellsOf t = n) (hf : RdF P fs.toList 0 n f ok) : Rd P t n f ok := by
  refine ⟨hc, fun H enc w fuel cs d ps h hwt => ?_⟩
  cases fuel with
  | zero => simp [DataW.trod] at h
  | succ fuel =>
    have key : cs.length = P.cellsOf t ∧ ∃ xs, d = .agg (xs.map (·.1)) ∧ fs.toList.mapM (fun fd => DataW.trod enc P w 0 (fun _ => true) true fuel fd.type ((cs.drop fd.offset).take (P.cellsOf fd.type))) = some xs := by
      unfold DataW.trod at h
      rw [hu] at h
      simp only at h
      split at h
      · next hl =>
        rw [Option.map_eq_some_iff] at h
        obtain ⟨xs, h1, h2⟩ := h
        injection h2 with h2 h3
        exact ⟨hl, xs, h2.symm, h1⟩
      · cases h
    obtain ⟨hl, xs, rfl, hx⟩ := key
    obtain ⟨x, a1, a2, a3⟩ := hf H enc w fuel cs xs hx fun q hq => hwt q (by simp only [DataW.weights, hu]; exact hq)
    exact ⟨x, a1, a2, by rw [hl, hc], fun i v y hv hy => a3 i v y (by rw [Nat.zero_add]; exact hv) hy⟩

theorem Rd.map {P : Program} {t : TypeId} {n : Nat} {α β : Type} {f : α → List V} {ok : α → Prop} {g : β → List V} {ok' : β → Prop} (h : Rd P t n f ok) (hm : ∀ x, ok x → ∃ y, ok' y ∧ g y = f x) : Rd P t n g ok' := by
  refine ⟨h.1, fun H enc w fuel cs d ps ht hwt => ?_⟩
  obtain ⟨x, a1, a2, a3, a4⟩ := h.2 H enc w fuel cs d ps ht hwt
  obtain ⟨y, b1, b2⟩ := hm x a1
  exact ⟨y, b1, by rw [b2]; exact a2, a3, by rw [b2]; exact a4⟩

/-- An argument of one cell. -/
theorem Rd.arg1 {P : Program} {t : TypeId} {α : Type} {f : α → V} {ok : α → Prop} (h : Rd P t 1 (fun x => [f x]) ok) {H : Type} {enc : TypeId × Value → H} {w : World} {v : Value} {d : DataW H} {ps : List MemPlace} (ht : DataW.Trod enc P w 0 (fun _ => true) true t v d ps)
    (hwt : ∀ q ∈ DataW.weights P t d, q ≤ reachBytes) (hone : v.oneCell' = true) : ∃ x, ok x ∧ RV (cz w) v (f x) := by
  obtain ⟨fuel, ht⟩ := ht
  obtain ⟨x, a1, a2, a3, a4⟩ := h.2 H enc w fuel _ d ps ht hwt
  refine ⟨x, a1, (a4 0 v (f x) ?_ rfl).2⟩
  rw [cells_one hone]; rfl

/-- An argument of many. -/
theorem Rd.argN {P : Program} {t : TypeId} {n : Nat} {α : Type} {f : α → List V} {ok : α → Prop} (h : Rd P t n f ok) {H : Type} {enc : TypeId × Value → H} {w : World} {cs : Array Value} {d : DataW H} {ps : List MemPlace} (ht : DataW.Trod enc P w 0 (fun _ => true) true t (.agg cs) d ps) (hwt : ∀ q ∈ DataW.weights P t d, q ≤ reachBytes) :
    ∃ x, ok x ∧ RV (cz w) (.agg cs) (.agg (f x)) := by
  obtain ⟨fuel, ht⟩ := ht
  obtain ⟨x, a1, a2, a3, a4⟩ := h.2 H enc w fuel _ d ps ht hwt
  have a3 : cs.size = n := by simpa [Value.cells] using a3
  refine ⟨x, a1, .agg (by rw [a3, a2]) (fun i v hv => ?_) fun i v y hv hy => (a4 i v y (by simpa [Value.cells] using hv) hy).2⟩
  have hi : i < (f x).length := by rw [a2, ← a3]; exact (Array.getElem?_eq_some_iff.1 hv).1
  exact (a4 i v _ (by simpa [Value.cells] using hv) (List.getElem?_eq_getElem hi)).1

theorem weights_cons {H : Type} {P : Program} {t : TypeId} {ts : List TypeId} {d : DataW H} {ds : List (DataW H)} (h : (DataW.weightsEach P (t :: ts) (d :: ds)).all (· ≤ reachBytes) = true) :
    (∀ q ∈ DataW.weights P t d, q ≤ reachBytes) ∧ (DataW.weightsEach P ts ds).all (· ≤ reachBytes) = true := by
  simp only [DataW.weightsEach, List.all_append, Bool.and_eq_true] at h
  exact ⟨fun q hq => by simpa using List.all_eq_true.1 h.1 q hq, h.2⟩

/-- A law's call. -/
theorem DC.law {P : Program} {f : FuncId} {xs : List V} (h : DC P f xs [] fun r _ => r = .bool true) {W : World} {args : Array Value} (hr : RVs (cz W) args xs) :
    Calls P f args W fun e W' => e = .returned (.bool true) ∧ RowKit.Below W.heap.size W W' := by
  refine (h W βz (fun _ => False) args (cz_hok W) hr).mono fun e W' hres => ?_
  obtain ⟨r, x, H', β', rfl, adv, hx, rfl⟩ := hres
  rw [hx.of_a]
  refine ⟨rfl, adv.ext.os, adv.ext.tape, adv.ext.output, adv.ext.size, fun k hk => adv.ext.block k hk fun ⟨i, e⟩ => ?_⟩
  simp [ownsB] at e

theorem RVs.cons {c : Cx} {v : Value} {x : V} {vs : Array Value} {xs : List V} (h : RV c v x) (hs : RVs c vs xs) : RVs c (#[v] ++ vs) (x :: xs) := by
  refine ⟨by simp [hs.1]; omega, fun i u y h1 h2 => ?_⟩
  cases i with
  | zero => simp [Array.getElem?_append] at h1 h2; subst h1; subst h2; exact h
  | succ i =>
    rw [Array.getElem?_append, if_neg (by simp)] at h1
    exact hs.2 i u y (by simpa using h1) (by simpa using h2)

end Go.Abs

/- The problems, as Lean data. -/
namespace Go.Abs
attribute [local simp] I.vc sub merge place

structure Var where
  name : ByteArray
  lo : Int
  hi : Int
structure Term where
  c : Int
  x : Int
structure Con where
  kind : Int
  op : Int
  terms : List Term
  k : Int
  v : Int
  x : Int
  y : Int
  xs : List Int
  table : List Int
  rows : List (List Int)
structure Model where
  vars : List Var
  cons : List Con
  hasGoal : Bool
  goal : List Term

abbrev V.i (n : Int) : V := .a (.int .i64 n)
def vInts (l : List Int) : V := .view 1 (l.map fun n => [V.i n])
def vIntss (l : List (List Int)) : V := .view 1 (l.map fun r => [vInts r])
def Term.cells (t : Term) : List V := [V.i t.c, V.i t.x]
def vTerms (l : List Term) : V := .view 2 (l.map Term.cells)
def Var.cells (v : Var) : List V := [.str v.name, V.i v.lo, V.i v.hi]
def vVars (l : List Var) : V := .view 3 (l.map Var.cells)
def Con.cells (c : Con) : List V := [V.i c.kind, V.i c.op, vTerms c.terms, V.i c.k, V.i c.v, V.i c.x, V.i c.y, vInts c.xs, vInts c.table, vIntss c.rows]
def vCons (l : List Con) : V := .view 10 (l.map Con.cells)
def Model.cells (m : Model) : List V := [vVars m.vars, vCons m.cons, .bool m.hasGoal, vTerms m.goal]

def I64 (n : Int) : Prop := -9223372036854775808 ≤ n ∧ n ≤ 9223372036854775807
def okInts (l : List Int) : Prop := l.length ≤ maxLen ∧ ∀ n ∈ l, I64 n
def okTerm (t : Term) : Prop := I64 t.c ∧ I64 t.x
def okVar (v : Var) : Prop := v.name.size ≤ maxLen ∧ I64 v.lo ∧ I64 v.hi
def okTerms (l : List Term) : Prop := l.length ≤ maxLen ∧ ∀ t ∈ l, okTerm t
def okCon (c : Con) : Prop := I64 c.kind ∧ I64 c.op ∧ okTerms c.terms ∧ I64 c.k ∧ I64 c.v ∧ I64 c.x ∧ I64 c.y ∧ okInts c.xs ∧ okInts c.table ∧ c.rows.length ≤ maxLen ∧ ∀ r ∈ c.rows, okInts r
def okModel (m : Model) : Prop := (m.vars.length ≤ maxLen ∧ ∀ v ∈ m.vars, okVar v) ∧ (m.cons.length ≤ maxLen ∧ ∀ c ∈ m.cons, okCon c) ∧ okTerms m.goal

/-- The types that the readings below speak of. -/
structure MTypes (P : Program) (tInt tBool tStr tInts tIntss tTerm tTerms tVar tVars tCon tCons tModel : TypeId) : Prop where
  bytes : 8 ≤ P.bytesOf tInt ∧ 8 ≤ P.bytesOf tInts ∧ 8 ≤ P.bytesOf tTerm ∧ 8 ≤ P.bytesOf tVar ∧ 8 ≤ P.bytesOf tCon
  int : P.underlying tInt = some (.int .i64) ∧ P.cellsOf tInt = 1
  bool : P.underlying tBool = some .bool ∧ P.cellsOf tBool = 1
  str : P.underlying tStr = some .string ∧ P.cellsOf tStr = 1
  ints : P.underlying tInts = some (.slice tInt) ∧ P.cellsOf tInts = 1
  intss : P.underlying tIntss = some (.slice tInts) ∧ P.cellsOf tIntss = 1
  term : ∃ fs, P.underlying tTerm = some (.struct fs) ∧ P.cellsOf tTerm = 2 ∧ fs.toList.map (fun f => (f.type, f.offset)) = [(tInt, 0), (tInt, 1)]
  terms : P.underlying tTerms = some (.slice tTerm) ∧ P.cellsOf tTerms = 1
  var : ∃ fs, P.underlying tVar = some (.struct fs) ∧ P.cellsOf tVar = 3 ∧ fs.toList.map (fun f => (f.type, f.offset)) = [(tStr, 0), (tInt, 1), (tInt, 2)]
  vars : P.underlying tVars = some (.slice tVar) ∧ P.cellsOf tVars = 1
  con : ∃ fs, P.underlying tCon = some (.struct fs) ∧ P.cellsOf tCon = 10 ∧ fs.toList.map (fun f => (f.type, f.offset)) = [(tInt, 0), (tInt, 1), (tTerms, 2), (tInt, 3), (tInt, 4), (tInt, 5), (tInt, 6), (tInts, 7), (tInts, 8), (tIntss, 9)]
  cons : P.underlying tCons = some (.slice tCon) ∧ P.cellsOf tCons = 1
  model : ∃ fs, P.underlying tModel = some (.struct fs) ∧ P.cellsOf tModel = 4 ∧ fs.toList.map (fun f => (f.type, f.offset)) = [(tVars, 0), (tCons, 1), (tBool, 2), (tTerms, 3)]

def fl (t : TypeId) (o : Nat) : Field := { (default : Field) with type := t, offset := o }

/-- So long is what is read, at most. -/
def maxS : Nat := 17592186044416
def zInts (l : List Int) : Prop := okInts l ∧ l.length ≤ maxS
def zTerms (l : List Term) : Prop := okTerms l ∧ l.length ≤ maxS
def zVar (v : Var) : Prop := okVar v ∧ v.name.size ≤ reachBytes
def zCon (c : Con) : Prop := okCon c ∧ c.terms.length ≤ maxS ∧ c.xs.length ≤ maxS ∧ c.table.length ≤ maxS ∧ c.rows.length ≤ maxS ∧ ∀ r ∈ c.rows, r.length ≤ maxS
def zModel (m : Model) : Prop := okModel m ∧ m.vars.length ≤ maxS ∧ m.cons.length ≤ maxS ∧ m.goal.length ≤ maxS ∧ (∀ v ∈ m.vars, v.name.size ≤ reachBytes) ∧ ∀ c ∈ m.cons, zCon c
theorem maxS_of {n b : Nat} (h : n * b ≤ reachBytes) (hb : 8 ≤ b) : n ≤ maxS := by
  have h1 : n * 8 ≤ n * b := Nat.mul_le_mul_left _ hb
  unfold reachBytes at h
  unfold maxS
  omega

theorem RdF.of_map {P : Program} {fs : List Field} {k n : Nat} {α : Type} {g : α → List V} {ok : α → Prop} (h : RdF P fs k n g ok) {gs : List Field} (he : gs.map (fun f => (f.type, f.offset)) = fs.map (fun f => (f.type, f.offset))) : RdF P gs k n g ok := by
  intro H enc w fuel cs xs hx hwt
  have ht : gs.map (·.type) = fs.map (·.type) := by have := congrArg (List.map Prod.fst) he; simpa [Function.comp_def] using this
  rw [ht] at hwt
  refine h H enc w fuel cs xs ?_ hwt
  have : ∀ (l : List Field), l.mapM (fun fd => DataW.trod enc P w 0 (fun _ => true) true fuel fd.type ((cs.drop fd.offset).take (P.cellsOf fd.type))) = (l.map fun f => (f.type, f.offset)).mapM (fun q => DataW.trod enc P w 0 (fun _ => true) true fuel q.1 ((cs.drop q.2).take (P.cellsOf q.1))) := by
    intro l
    induction l with
    | nil => rfl
    | cons a l ih => rw [List.map_cons, List.mapM_cons, List.mapM_cons, ih]
  rw [this] at hx ⊢
  rw [← he]; exact hx

section
variable {P : Program} {tInt tBool tStr tInts tIntss tTerm tTerms tVar tVars tCon tCons tModel : TypeId} (M : MTypes P tInt tBool tStr tInts tIntss tTerm tTerms tVar tVars tCon tCons tModel)
include M

theorem MTypes.rdInt : Rd P tInt 1 (fun n : Int => [V.i n]) I64 :=
  (Rd.int M.int.1 M.int.2).map fun n h => ⟨n, by
    have : (decide (IntKind.i64.min ≤ n) && decide (n ≤ IntKind.i64.max)) = true := h
    simp only [Bool.and_eq_true, decide_eq_true_eq] at this
    exact ⟨this.1, this.2⟩, rfl⟩

theorem MTypes.rdInts : Rd P tInts 1 (fun l : List Int => [vInts l]) zInts :=
  (Rd.slice M.ints.1 M.ints.2 (by omega) M.rdInt).map fun l h => ⟨l, ⟨⟨h.1, h.2.2⟩, maxS_of h.2.1 M.bytes.1⟩, rfl⟩

theorem MTypes.rdIntss : Rd P tIntss 1 (fun l : List (List Int) => [vIntss l]) (fun l => l.length ≤ maxLen ∧ l.length ≤ maxS ∧ ∀ r ∈ l, zInts r) :=
  (Rd.slice M.intss.1 M.intss.2 (by omega) M.rdInts).map fun l h => ⟨l, ⟨h.1, maxS_of h.2.1 M.bytes.2.1, h.2.2⟩, rfl⟩

theorem MTypes.rdTerm : Rd P tTerm 2 Term.cells okTerm := by
  obtain ⟨fs, h1, h2, h3⟩ := M.term
  refine (Rd.struct h1 h2 (RdF.of_map (fs := [fl tInt 0, fl tInt 1]) (.cons rfl M.rdInt (.cons rfl M.rdInt .nil)) h3)).map fun x h => ?_
  exact ⟨⟨x.1, x.2.1⟩, ⟨h.1, h.2.1⟩, rfl⟩

theorem MTypes.rdTerms : Rd P tTerms 1 (fun l : List Term => [vTerms l]) zTerms :=
  (Rd.slice M.terms.1 M.terms.2 (by omega) M.rdTerm).map fun l h => ⟨l, ⟨⟨h.1, h.2.2⟩, maxS_of h.2.1 M.bytes.2.2.1⟩, rfl⟩

theorem MTypes.rdVar : Rd P tVar 3 Var.cells zVar := by
  obtain ⟨fs, h1, h2, h3⟩ := M.var
  refine (Rd.struct h1 h2 (RdF.of_map (fs := [fl tStr 0, fl tInt 1, fl tInt 2]) (.cons rfl (Rd.str M.str.1 M.str.2) (.cons rfl M.rdInt (.cons rfl M.rdInt .nil))) h3)).map fun x h => ?_
  exact ⟨⟨x.1, x.2.1, x.2.2.1⟩, ⟨⟨h.1.1, h.2.1, h.2.2.1⟩, h.1.2⟩, rfl⟩

theorem MTypes.rdCon : Rd P tCon 10 Con.cells zCon := by
  obtain ⟨fs, h1, h2, h3⟩ := M.con
  refine (Rd.struct h1 h2 (RdF.of_map (fs := [fl tInt 0, fl tInt 1, fl tTerms 2, fl tInt 3, fl tInt 4, fl tInt 5, fl tInt 6, fl tInts 7, fl tInts 8, fl tIntss 9])
    (.cons rfl M.rdInt (.cons rfl M.rdInt (.cons rfl M.rdTerms (.cons rfl M.rdInt (.cons rfl M.rdInt (.cons rfl M.rdInt (.cons rfl M.rdInt (.cons rfl M.rdInts (.cons rfl M.rdInts (.cons rfl M.rdIntss .nil)))))))))) h3)).map fun x h => ?_
  obtain ⟨a1, a2, a3, a4, a5, a6, a7, a8, a9, a10, _⟩ := h
  exact ⟨⟨x.1, x.2.1, x.2.2.1, x.2.2.2.1, x.2.2.2.2.1, x.2.2.2.2.2.1, x.2.2.2.2.2.2.1, x.2.2.2.2.2.2.2.1, x.2.2.2.2.2.2.2.2.1, x.2.2.2.2.2.2.2.2.2.1⟩, ⟨⟨a1, a2, a3.1, a4, a5, a6, a7, a8.1, a9.1, a10.1, fun r hr => (a10.2.2 r hr).1⟩, a3.2, a8.2, a9.2, a10.2.1, fun r hr => (a10.2.2 r hr).2⟩, rfl⟩

theorem MTypes.rdModel : Rd P tModel 4 Model.cells zModel := by
  obtain ⟨fs, h1, h2, h3⟩ := M.model
  refine (Rd.struct h1 h2 (RdF.of_map (fs := [fl tVars 0, fl tCons 1, fl tBool 2, fl tTerms 3])
    (.cons rfl (Rd.slice M.vars.1 M.vars.2 (by omega) M.rdVar) (.cons rfl (Rd.slice M.cons.1 M.cons.2 (by omega) M.rdCon) (.cons rfl (Rd.bool M.bool.1 M.bool.2) (.cons rfl M.rdTerms .nil)))) h3)).map fun x h => ?_
  obtain ⟨a1, a2, a3, a4, _⟩ := h
  exact ⟨⟨x.1, x.2.1, x.2.2.1, x.2.2.2.1⟩, ⟨⟨⟨a1.1, fun v hv => (a1.2.2 v hv).1⟩, ⟨a2.1, fun c hc => (a2.2.2 c hc).1⟩, a4.1⟩, maxS_of a1.2.1 M.bytes.2.2.2.1, maxS_of a2.2.1 M.bytes.2.2.2.2, a4.2, fun v hv => (a1.2.2 v hv).2, fun c hc => a2.2.2 c hc⟩, rfl⟩

end
end Go.Abs

/- What the functions of the package model compute, as Lean functions. -/
namespace Go.Abs
attribute [local simp] I.vc sub merge place

structure Needs where
  terms : Bool
  xs : Bool
  table : Bool
  rows : Bool
  x : Bool
  y : Bool
  k : Bool
  op : Bool
  v : Bool
  deriving DecidableEq

/-- A kind's needs, as they lie in memory. -/
def Needs.cells (n : Needs) (f : FuncId) : List V := [.bool n.terms, .bool n.xs, .bool n.table, .bool n.rows, .bool n.x, .bool n.y, .bool n.k, .bool n.op, .bool n.v, .fn (.func f) [] []]

def needs (k : Int) : Option Needs :=
  if k = 1 then some ⟨true, false, false, false, false, false, true, true, false⟩
  else if k = 2 then some ⟨false, false, false, false, true, true, true, false, false⟩
  else if k = 3 then some ⟨false, true, false, false, false, false, false, false, false⟩
  else if k = 4 then some ⟨false, false, true, false, true, true, false, false, false⟩
  else if k = 5 then some ⟨false, true, false, false, false, true, false, false, false⟩
  else if k = 6 then some ⟨false, true, false, false, false, true, false, false, false⟩
  else if k = 7 then some ⟨true, false, false, false, true, false, true, false, false⟩
  else if k = 8 then some ⟨false, true, false, true, false, false, false, false, false⟩
  else if k = 9 then some ⟨false, true, false, false, false, false, true, true, true⟩
  else none

def withinB (n most : Int) : Bool := decide (-most ≤ n) && decide (n ≤ most)
def greatB (l : List Int) : Bool := l.any fun t => !withinB t 1000000000
def countsB (there : Bool) (n : Nat) : Bool := !there || (decide (1 ≤ n) && decide (n ≤ 64))
def badVarB (vars : Int) (l : List Term) : Bool := l.any fun t => decide (t.x < 0) || decide (vars ≤ t.x)
def badCoefB (l : List Term) : Bool := l.any fun t => decide (t.c = 0) || !withinB t.c 1000000
def noB (vars x : Int) : Bool := decide (x < 0) || decide (vars ≤ x)
def fieldB (c : Con) (n : Needs) : Bool :=
  (!n.op && decide (c.op ≠ 0)) || (!n.k && decide (c.k ≠ 0)) || (!n.v && decide (c.v ≠ 0)) || (!n.x && decide (c.x ≠ 0)) || (!n.y && decide (c.y ≠ 0)) ||
  (!n.terms && decide (0 < c.terms.length)) || (!n.xs && decide (0 < c.xs.length)) || (!n.table && decide (0 < c.table.length)) || (!n.rows && decide (0 < c.rows.length))
def wideB (c : Con) (n : Needs) : Bool :=
  n.rows && (decide (8 < c.xs.length) || !countsB true c.rows.length || c.rows.any fun r => decide (r.length ≠ c.xs.length))
def conN (c : Con) (vars : Int) (n : Needs) : Int :=
  if n.op && (decide (c.op < 1) || decide (3 < c.op)) then 43
  else if fieldB c n then 48
  else if !countsB n.terms c.terms.length || !countsB n.xs c.xs.length || !countsB n.table c.table.length || wideB c n then 47
  else if badVarB vars c.terms || (n.x && noB vars c.x) || (n.y && noB vars c.y) || c.xs.any (noB vars) then 44
  else if badCoefB c.terms then 45
  else if !withinB c.k 1000000000 || !withinB c.v 1000000000 || greatB c.table || c.rows.any greatB then 46
  else 0
def conB (c : Con) (vars : Int) : Int :=
  match needs c.kind with
  | none => 43
  | some n => conN c vars n

def letterB (r : Nat) : Bool := (decide (97 ≤ r) && decide (r ≤ 122)) || (decide (65 ≤ r) && decide (r ≤ 90)) || decide (r = 95)
def nameFrom (s : ByteArray) : Nat → Nat → Bool
  | 0, _ => true
  | f + 1, pos => if pos < s.size then
      (if !letterB (Utf8.decode s pos).1 && (decide (pos = 0) || decide ((Utf8.decode s pos).1 < 48) || decide (57 < (Utf8.decode s pos).1)) then false else nameFrom s f (pos + (Utf8.decode s pos).2))
    else true
def nameB (s : ByteArray) : Bool := nameFrom s (s.size + 1) 0 && decide (1 ≤ s.size) && decide (s.size ≤ 16)

def varB (l : List Var) (i : Nat) (v : Var) : Int :=
  if !nameB v.name || (l.take i).any fun w => decide (w.name = v.name) then 41
  else if !withinB v.lo 1000000000 || !withinB v.hi 1000000000 || decide (v.hi < v.lo) || decide (64 ≤ v.hi - v.lo) then 42
  else 0

def goalB (m : Model) : Int :=
  if !m.hasGoal && decide (0 < m.goal.length) then 48
  else if !countsB m.hasGoal m.goal.length then 47
  else if badVarB m.vars.length m.goal then 44
  else if badCoefB m.goal then 45
  else 0

/-- The first place of which something else than 0 is told. -/
def firstBad {α : Type} (f : Nat → α → Int) : Nat → List α → Option (Nat × Int)
  | _, [] => none
  | i, x :: l => if f i x = 0 then firstBad f (i + 1) l else some (i, f i x)

def checkB (m : Model) : Int × Int :=
  if m.vars.length = 0 ∨ 32 < m.vars.length then (0, 40)
  else match firstBad (varB m.vars) 0 m.vars with
    | some (i, e) => ((i : Int), e)
    | none => if 64 < m.cons.length then ((m.vars.length : Int), 49)
      else match firstBad (fun _ c => conB c m.vars.length) 0 m.cons with
        | some (i, e) => ((m.vars.length : Int) + i, e)
        | none => if goalB m = 0 then (0, 0) else ((m.vars.length : Int) + m.cons.length, goalB m)

def rightB (m : Model) : Bool := decide ((checkB m).2 = 0)

end Go.Abs

/- Worth, Floor, Ceil: plain laws. -/
namespace Go.Abs
attribute [local simp] I.vc sub merge place

def sumI (g : Int → Int) (l : List Term) : Int := (l.map fun t => t.c * g t.x).sum
def atI (l : List Int) (x : Int) : Int := l.getD x.toNat 0
def worthB (m : Model) (values : List Int) : Int :=
  if !rightB m || decide (values.length ≠ m.vars.length) || greatB values then 0 else sumI (atI values) m.goal
def varAt (m : Model) (x : Int) : Var := m.vars.getD x.toNat ⟨⟨#[]⟩, 0, 0⟩
def endOf (m : Model) (least : Bool) (t : Term) : Int := if decide (0 < t.c) = least then t.c * (varAt m t.x).lo else t.c * (varAt m t.x).hi
def endsI (m : Model) (least : Bool) (l : List Term) : Int := (l.map (endOf m least)).sum
def endsB (m : Model) (least : Bool) : Int := if !rightB m then 0 else endsI m least m.goal

def prodFrom (most : Int) : Int → List Var → Int × Bool
  | n, [] => (n, true)
  | n, v :: l => if most.tdiv (v.hi - v.lo + 1) < n then (0, false) else prodFrom most (n * (v.hi - v.lo + 1)) l
def prodB (m : Model) (most : Int) : Int × Bool := if !rightB m || decide (most < 1) then (0, false) else prodFrom most 1 m.vars

theorem mul_bound {c v : Int} (hc : -1000000 ≤ c ∧ c ≤ 1000000) (hv : -1000000000 ≤ v ∧ v ≤ 1000000000) : -1000000000000000 ≤ c * v ∧ c * v ≤ 1000000000000000 := by
  have h : (c * v).natAbs ≤ 1000000 * 1000000000 := by
    rw [Int.natAbs_mul]
    exact Nat.mul_le_mul (by omega) (by omega)
  omega

theorem firstBad_none {α : Type} {f : Nat → α → Int} : ∀ {l : List α} {i : Nat}, firstBad f i l = none → ∀ (j : Nat) (x : α), l[j]? = some x → f (i + j) x = 0 := by
  intro l
  induction l with
  | nil => intro i _ j x h; simp at h
  | cons y l ih =>
    intro i h j x hj
    simp only [firstBad] at h
    split at h
    · next h0 =>
      cases j with
      | zero => simp at hj; subst hj; simpa using h0
      | succ j =>
        have := ih h j x (by simpa using hj)
        rw [← this]; congr 1; omega
    · cases h

theorem firstBad_some {α : Type} {f : Nat → α → Int} : ∀ {l : List α} {i : Nat} {p : Nat × Int}, firstBad f i l = some p → p.2 ≠ 0 := by
  intro l
  induction l with
  | nil => intro i p h; simp [firstBad] at h
  | cons y l ih =>
    intro i p h
    simp only [firstBad] at h
    split at h
    · exact ih h
    · next h0 => cases h; exact h0

structure Right (m : Model) : Prop where
  nv : 1 ≤ m.vars.length ∧ m.vars.length ≤ 32
  nc : m.cons.length ≤ 64
  var : ∀ (i : Nat) (v : Var), m.vars[i]? = some v → varB m.vars i v = 0
  con : ∀ c ∈ m.cons, conB c m.vars.length = 0
  goal : goalB m = 0

theorem right_iff {m : Model} : rightB m = true ↔ Right m := by
  unfold rightB checkB
  simp only [decide_eq_true_eq]
  constructor
  · intro h
    split at h
    · simp at h
    · next h1 =>
      split at h
      · next p i e hp => exact absurd h (firstBad_some hp)
      · next hv =>
        split at h
        · simp at h
        · next h2 =>
          split at h
          · next p i e hp => exact absurd h (firstBad_some hp)
          · next hc =>
            split at h
            · next hg =>
              refine ⟨by omega, by omega, fun i v hi => ?_, fun c hc' => ?_, hg⟩
              · have := firstBad_none hv i v hi; simpa using this
              · obtain ⟨j, hj⟩ := List.getElem?_of_mem hc'
                have := firstBad_none hc j c hj; simpa using this
            · next hg => exact absurd h hg
  · intro h
    rw [if_neg (by have := h.nv; omega)]
    have key : ∀ {α : Type} (f : Nat → α → Int) (l : List α) (i : Nat), (∀ (j : Nat) (x : α), l[j]? = some x → f (i + j) x = 0) → firstBad f i l = none := by
      intro α f l
      induction l with
      | nil => intro i _; rfl
      | cons x l ih =>
        intro i h
        simp only [firstBad]
        rw [if_pos (by simpa using h 0 x rfl)]
        refine ih _ fun j y hj => ?_
        have := h (j + 1) y (by simpa using hj)
        rw [← this]; congr 1; omega
    rw [key _ m.vars 0 fun j x hj => by rw [Nat.zero_add]; exact h.var j x hj]
    simp only
    rw [if_neg (by have := h.nc; omega), key _ m.cons 0 fun j x hj => h.con x (List.mem_of_getElem? hj)]
    simp [h.goal]

structure VarOk (v : Var) : Prop where
  lo : -1000000000 ≤ v.lo ∧ v.lo ≤ 1000000000
  hi : -1000000000 ≤ v.hi ∧ v.hi ≤ 1000000000
  le : v.lo ≤ v.hi
  dom : v.hi - v.lo < 64

theorem VarOk.of {l : List Var} {i : Nat} {v : Var} (h : varB l i v = 0) : VarOk v := by
  unfold varB at h
  split at h
  · cases h
  · split at h
    · cases h
    · next h2 =>
      simp only [withinB, Bool.or_eq_true, Bool.not_eq_true', Bool.and_eq_false_iff, decide_eq_true_eq, decide_eq_false_iff_not, not_or, Bool.not_eq_false] at h2
      constructor <;> omega

structure TermOk (vars : Nat) (t : Term) : Prop where
  x : 0 ≤ t.x ∧ t.x < vars
  c : -1000000 ≤ t.c ∧ t.c ≤ 1000000 ∧ t.c ≠ 0

theorem TermOk.of {vars : Nat} {l : List Term} (h1 : badVarB vars l = false) (h2 : badCoefB l = false) : ∀ t ∈ l, TermOk vars t := by
  intro t ht
  unfold badVarB at h1
  unfold badCoefB at h2
  rw [List.any_eq_false] at h1 h2
  have h1 := h1 t ht
  have h2 := h2 t ht
  simp only [withinB, Bool.or_eq_true, Bool.not_eq_true', Bool.and_eq_false_iff, decide_eq_true_eq, decide_eq_false_iff_not, not_or, Bool.not_eq_false] at h1 h2
  constructor <;> omega

theorem Right.terms {m : Model} (h : Right m) : (∀ t ∈ m.goal, TermOk m.vars.length t) ∧ m.goal.length ≤ 64 := by
  have hg := h.goal
  unfold goalB at hg
  split at hg
  · cases hg
  · next h1 =>
    split at hg
    · cases hg
    · next h2 =>
      split at hg
      · cases hg
      · next h3 =>
        split at hg
        · cases hg
        · next h4 =>
          refine ⟨TermOk.of (by simpa using h3) (by simpa using h4), ?_⟩
          simp [countsB] at h1 h2
          cases hh : m.hasGoal
          · simp [h1 hh]
          · have := h2 hh
            omega

/-- A problem's variable at a place. -/
theorem Right.varAt {m : Model} (h : Right m) {x : Int} (h0 : 0 ≤ x) (h1 : x < m.vars.length) : m.vars[x.toNat]? = some (varAt m x) ∧ VarOk (varAt m x) := by
  have hi : x.toNat < m.vars.length := by omega
  have : m.vars[x.toNat]? = some (Abs.varAt m x) := by simp [Abs.varAt, List.getD, List.getElem?_eq_getElem hi]
  exact ⟨this, VarOk.of (h.var _ _ this)⟩

/-- Values within the bounds. -/
def Within (m : Model) (l : List Int) : Prop := l.length = m.vars.length ∧ ∀ (i : Nat) (v : Var), m.vars[i]? = some v → v.lo ≤ l.getD i 0 ∧ l.getD i 0 ≤ v.hi

theorem Within.great {m : Model} (h : Right m) {l : List Int} (hw : Within m l) : greatB l = false := by
  unfold greatB
  rw [List.any_eq_false]
  intro x hx
  obtain ⟨i, hi⟩ := List.getElem?_of_mem hx
  have hlt : i < m.vars.length := by rw [← hw.1]; exact (List.getElem?_eq_some_iff.1 hi).1
  have hv := List.getElem?_eq_getElem hlt
  have h1 := hw.2 i _ hv
  have h2 := VarOk.of (h.var i _ hv)
  have h3 : l.getD i 0 = x := by simp [List.getD, hi]
  rw [h3] at h1
  have := h2.lo; have := h2.hi
  simp [withinB]
  omega

theorem mul_le_of {c a b : Int} (hc : 0 ≤ c) (h : a ≤ b) : c * a ≤ c * b := Int.mul_le_mul_of_nonneg_left h hc
theorem mul_ge_of {c a b : Int} (hc : c ≤ 0) (h : a ≤ b) : c * b ≤ c * a := Int.mul_le_mul_of_nonpos_left hc h

theorem sum_le {α : Type} {f g : α → Int} : ∀ {l : List α}, (∀ x ∈ l, f x ≤ g x) → (l.map f).sum ≤ (l.map g).sum := by
  intro l
  induction l with
  | nil => intro _; simp
  | cons x l ih =>
    intro h
    have h1 := h x (by simp)
    have h2 := ih fun y hy => h y (by simp [hy])
    simp only [List.map_cons, List.sum_cons]
    omega

theorem worth_within {m : Model} (hr : rightB m = true) {l : List Int} (hw : Within m l) : worthB m l = sumI (atI l) m.goal := by
  unfold worthB
  rw [if_neg]
  simp [hr, hw.1, hw.great (right_iff.1 hr)]

/-- P4.9: between the ends. -/
theorem worth_between {m : Model} (hr : rightB m = true) {l : List Int} (hw : Within m l) : endsB m true ≤ worthB m l ∧ worthB m l ≤ endsB m false := by
  rw [worth_within hr hw]
  have h := right_iff.1 hr
  unfold endsB
  simp only [hr, Bool.not_true, Bool.false_eq_true, if_false]
  have key : ∀ t ∈ m.goal, (varAt m t.x).lo ≤ atI l t.x ∧ atI l t.x ≤ (varAt m t.x).hi := by
    intro t ht
    have ht := h.terms.1 t ht
    exact hw.2 _ _ (h.varAt ht.x.1 ht.x.2).1
  constructor
  · refine sum_le fun t ht => ?_
    have h1 := key t ht
    unfold endOf
    by_cases hc : 0 < t.c
    · simp only [hc, decide_true, if_true]; exact mul_le_of (by omega) h1.1
    · simp only [hc, decide_false, Bool.false_eq_true, if_false]; exact mul_ge_of (by omega) h1.2
  · refine sum_le fun t ht => ?_
    have h1 := key t ht
    unfold endOf
    by_cases hc : 0 < t.c
    · simp only [hc, decide_true, Bool.true_eq_false, if_false]; exact mul_le_of (by omega) h1.2
    · simp only [hc, decide_false, if_true]; exact mul_ge_of (by omega) h1.1

/-- The ends are reached by values that stand where each term wants. -/
theorem worth_ends {m : Model} (hr : rightB m = true) {l : List Int} (hw : Within m l) (least : Bool) (hl : ∀ t ∈ m.goal, atI l t.x = if decide (0 < t.c) = least then (varAt m t.x).lo else (varAt m t.x).hi) : worthB m l = endsB m least := by
  rw [worth_within hr hw]
  unfold endsB
  simp only [hr, Bool.not_true, Bool.false_eq_true, if_false]
  unfold sumI endsI
  congr 1
  refine List.map_congr_left fun t ht => ?_
  rw [hl t ht]
  unfold endOf
  split <;> rfl

end Go.Abs

namespace Go.Abs.G
set_option linter.unusedVariables false
attribute [local simp] I.vc sub merge place

theorem wrap32 {n : Int} (h0 : 0 ≤ n) (h1 : n < 4294967296) : IntKind.u32.wrap n = n := by
  simp [IntKind.wrap, IntKind.bits, IntKind.signed]
  omega
theorem bits32 : IntKind.u32.bits = 32 := rfl
theorem fdivN (a j : Nat) : ((a : Int).fdiv (2 ^ j)) = ((a / 2 ^ j : Nat) : Int) := by
  rw [Int.fdiv_eq_ediv_of_nonneg _ (Int.pow_nonneg (by decide))]
  simp

theorem bit32 {a j : Nat} (ha : a < 4294967296) (hj : j < 32) :
    (IntKind.u32.wrap ↑(BitVec.ofInt 32 ((a : Int).fdiv (2 ^ min j 32)) &&& 1#32).toNat == 1) = a.testBit j := by
  rw [Nat.min_eq_left (by omega), fdivN]
  have h1 : a / 2 ^ j < 4294967296 := Nat.lt_of_le_of_lt (Nat.div_le_self _ _) ha
  rw [Nat.testBit_eq_decide_div_mod_eq]
  generalize a / 2 ^ j = q at *
  have h2 : (BitVec.ofInt 32 (q : Int) &&& 1#32).toNat = q % 2 := by
    rw [BitVec.toNat_and, BitVec.ofInt_natCast, BitVec.toNat_ofNat, BitVec.toNat_ofNat, Nat.mod_eq_of_lt (by omega : q < 2 ^ 32)]
    exact Nat.and_one_is_mod q
  rw [h2, wrap32 (by omega) (by omega)]
  rcases Nat.mod_two_eq_zero_or_one q with h | h <;> rw [h] <;> rfl

theorem one_shl : ∀ j, j < 32 → BitVec.ofInt 32 (IntKind.u32.wrap (2 ^ min j 32)) = 1#32 <<< j := by decide +kernel

def clr (a j : Nat) : Nat := (BitVec.ofNat 32 a &&& ~~~(1#32 <<< j)).toNat
def sett (a j : Nat) : Nat := (BitVec.ofNat 32 a ||| (1#32 <<< j)).toNat

theorem clr_lt (a j : Nat) : clr a j < 4294967296 := BitVec.isLt _
theorem sett_lt (a j : Nat) : sett a j < 4294967296 := BitVec.isLt _

theorem clr32 {a j : Nat} (hj : j < 32) : IntKind.u32.wrap ↑(BitVec.ofNat 32 a &&& ~~~BitVec.ofInt 32 (IntKind.u32.wrap (2 ^ min j 32))).toNat = (clr a j : Int) := by
  rw [one_shl j hj]
  exact wrap32 (Int.natCast_nonneg _) (by have := clr_lt a j; unfold clr at this; omega)
theorem sett32 {a j : Nat} (hj : j < 32) : IntKind.u32.wrap ↑(BitVec.ofNat 32 a ||| BitVec.ofInt 32 (IntKind.u32.wrap (2 ^ min j 32))).toNat = (sett a j : Int) := by
  rw [one_shl j hj]
  exact wrap32 (Int.natCast_nonneg _) (by have := sett_lt a j; unfold sett at this; omega)

theorem shl_bit (j i : Nat) (hj : j < 32) : (1#32 <<< j).getLsbD i = decide (i = j) := by
  rw [BitVec.getLsbD_shiftLeft]
  by_cases h : i = j
  · subst h; simp [hj]
  · by_cases h2 : i < j
    · simp [h2, h]
    · have : i - j ≠ 0 := by omega
      simp [h, BitVec.getLsbD_one, this]
theorem clr_bit {a j : Nat} (ha : a < 4294967296) (hj : j < 32) (i : Nat) : (clr a j).testBit i = (a.testBit i && !decide (i = j)) := by
  unfold clr
  rw [BitVec.testBit_toNat, BitVec.getLsbD_and, BitVec.getLsbD_not, shl_bit j i hj, BitVec.getLsbD_ofNat]
  by_cases h : i < 32
  · simp [h]
  · have : a.testBit i = false := Nat.testBit_lt_two_pow (Nat.lt_of_lt_of_le (show a < 2 ^ 32 from ha) (Nat.pow_le_pow_right (by omega) (by omega : 32 ≤ i)))
    simp [h, this]
theorem sett_bit {a j : Nat} (ha : a < 4294967296) (hj : j < 32) (i : Nat) : (sett a j).testBit i = (a.testBit i || decide (i = j)) := by
  unfold sett
  rw [BitVec.testBit_toNat, BitVec.getLsbD_or, shl_bit j i hj, BitVec.getLsbD_ofNat]
  by_cases h : i < 32
  · simp [h]
  · have : a.testBit i = false := Nat.testBit_lt_two_pow (Nat.lt_of_lt_of_le (show a < 2 ^ 32 from ha) (Nat.pow_le_pow_right (by omega) (by omega : 32 ≤ i)))
    simp [h, this]
end Go.Abs.G

namespace Go.Abs.G
open Go.Proofs
set_option linter.unusedVariables false
set_option linter.unusedSimpArgs false
attribute [local simp] I.vc sub merge place

structure Dom where
  from' : Int
  width : Nat
  a : Nat
  b : Nat

abbrev V.w (n : Nat) : V := .a (.int .u32 n)
def Dom.row (d : Dom) : List V := [V.i d.from', V.i d.width, V.w d.a, V.w d.b]
def Dom.has (d : Dom) (i : Nat) : Bool := if i < 32 then d.a.testBit i else d.b.testBit (i - 32)
structure Dom.ok (d : Dom) : Prop where
  f : -1000000000 ≤ d.from' ∧ d.from' ≤ 1000000000
  w : d.width ≤ 64
  a : d.a < 4294967296
  b : d.b < 4294967296

theorem has_spec {rows : List (List V)} {d : Dom} {x k : Nat} (hx : rows[x]? = some d.row) (hd : d.ok) (hk : k < 64) :
    DC Try.prog dom_set_has.id [.ptr 0 rows.length x 2, V.i k] [.mem false [] rows] (fun r H => r = .bool (d.has k) ∧ H = [.mem false [] rows]) := by
  obtain ⟨hlt, he⟩ := List.getElem?_eq_some_iff.1 hx
  refine DC.of dom_set_has.ok (by simp) ?_
  have ht : ((k : Int).tmod 32) = ((k % 32 : Nat) : Int) := by rw [Int.tmod_eq_emod_of_nonneg (by omega)]; rfl
  have hm : ((k : Int) % 32).toNat = k % 32 := by omega
  have hp : 0 ≤ (k : Int) % 32 := by omega
  by_cases h : k < 32
  · have h1 : IntKind.i64.wrap ((k : Int) / 32) = 0 := by rw [wrap64] <;> omega
    have h2 : k % 32 = k := by omega
    simp [ht, hm, hp, h2, dom_set_has.ir, dom_set_has.rs, h1, hx, he, hlt, Dom.row, Dom.has, h, bits32]
    exact bit32 hd.a h
  · have h1 : IntKind.i64.wrap ((k : Int) / 32) = 1 := by rw [wrap64] <;> omega
    have h2 : k % 32 = k - 32 := by omega
    have h3 : k - 32 < 32 := by omega
    simp [ht, hm, hp, h2, dom_set_has.ir, dom_set_has.rs, h1, hx, he, hlt, Dom.row, Dom.has, h, bits32]
    exact bit32 hd.b h3
end Go.Abs.G

namespace Go.Abs.G
open Go.Proofs
set_option linter.unusedVariables false
attribute [local simp] I.vc sub merge place
def tab : ByteArray := { data := #[0, 1, 1, 2, 1, 2, 2, 3, 1, 2, 2, 3, 2, 3, 3, 4, 1, 2, 2, 3, 2, 3, 3, 4, 2, 3, 3, 4, 3, 4, 4, 5, 1, 2, 2, 3, 2, 3, 3, 4, 2, 3, 3, 4, 3, 4, 4, 5, 2, 3, 3, 4, 3, 4, 4, 5, 3, 4, 4, 5, 4, 5, 5, 6, 1, 2, 2, 3, 2, 3, 3, 4, 2, 3, 3, 4, 3, 4, 4, 5, 2, 3, 3, 4, 3, 4, 4, 5, 3, 4, 4, 5, 4, 5, 5, 6, 2, 3, 3, 4, 3, 4, 4, 5, 3, 4, 4, 5, 4, 5, 5, 6, 3, 4, 4, 5, 4, 5, 5, 6, 4, 5, 5, 6, 5, 6, 6, 7, 1, 2, 2, 3, 2, 3, 3, 4, 2, 3, 3, 4, 3, 4, 4, 5, 2, 3, 3, 4, 3, 4, 4, 5, 3, 4, 4, 5, 4, 5, 5, 6, 2, 3, 3, 4, 3, 4, 4, 5, 3, 4, 4, 5, 4, 5, 5, 6, 3, 4, 4, 5, 4, 5, 5, 6, 4, 5, 5, 6, 5, 6, 6, 7, 2, 3, 3, 4, 3, 4, 4, 5, 3, 4, 4, 5, 4, 5, 5, 6, 3, 4, 4, 5, 4, 5, 5, 6, 4, 5, 5, 6, 5, 6, 6, 7, 3, 4, 4, 5, 4, 5, 5, 6, 4, 5, 5, 6, 5, 6, 6, 7, 4, 5, 5, 6, 5, 6, 6, 7, 5, 6, 6, 7, 6, 7, 7, 8] }
def onesIr (T : ByteArray) : C := .seq (.reg 0 [.o 0 (.lt (some 2) (.mov (.const (.int .i64 0)))),
    .g (.keep [0])]) (.seq (.reg 0 [.o 0 (.lt (some 3) (.mov (.tmp 0))),
    .o 1 (.lt (some 4) (.bin .shr (.tmp 3) (.const (.int .u64 24)))),
    .o 2 (.lt (some 5) (.ixStr (.const (.string T)) (.tmp 4))),
    .o 3 (.lt (some 6) (.mov (.tmp 0))),
    .o 4 (.lt (some 7) (.bin .shr (.tmp 6) (.const (.int .u64 16)))),
    .o 5 (.lt (some 8) (.bin .and (.tmp 7) (.const (.int .u32 255)))),
    .o 6 (.lt (some 9) (.ixStr (.const (.string T)) (.tmp 8))),
    .o 7 (.lt (some 10) (.bin .add (.tmp 5) (.tmp 9))),
    .o 8 (.lt (some 11) (.mov (.tmp 0))),
    .o 9 (.lt (some 12) (.bin .shr (.tmp 11) (.const (.int .u64 8)))),
    .o 10 (.lt (some 13) (.bin .and (.tmp 12) (.const (.int .u32 255)))),
    .o 11 (.lt (some 14) (.ixStr (.const (.string T)) (.tmp 13))),
    .o 12 (.lt (some 15) (.bin .add (.tmp 10) (.tmp 14))),
    .o 13 (.lt (some 16) (.mov (.tmp 0))),
    .o 14 (.lt (some 17) (.bin .and (.tmp 16) (.const (.int .u32 255)))),
    .o 15 (.lt (some 18) (.ixStr (.const (.string T)) (.tmp 17))),
    .o 16 (.lt (some 19) (.bin .add (.tmp 15) (.tmp 18))),
    .o 17 (.lt (some 20) (.conv .i64 (.tmp 19))),
    .o 18 (.lt (some 2) (.mov (.tmp 20))),
    .g (.keep [2])]) (.ret))
theorem ones_ir : math_bits_OnesCount32.ir = onesIr tab := rfl
end Go.Abs.G
