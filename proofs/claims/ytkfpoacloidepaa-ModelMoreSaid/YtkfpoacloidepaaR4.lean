import Derived.Test.YtkfpoacloidepaaR3
import Derived.Test.YtkfpoacloidepaaProg
import Derived.KernelRfl
import GoSem.ClaimChange
set_option linter.all false
namespace Go.Abs.G
open Go.Proofs
set_option linter.unusedVariables false
def hallmarklaw4_ModelWorth.id : FuncId := 3
@[simp] theorem hallmarklaw4_ModelWorth.okf : okFunc Try.prog hallmarklaw4_ModelWorth.id = true := by kernel_rfl
def hallmarklaw4_ModelOwn.id : FuncId := 4
@[simp] theorem hallmarklaw4_ModelOwn.okf : okFunc Try.prog hallmarklaw4_ModelOwn.id = true := by kernel_rfl
def hallmarklaw4_ModelMore.id : FuncId := 5
@[simp] theorem hallmarklaw4_ModelMore.okf : okFunc Try.prog hallmarklaw4_ModelMore.id = true := by kernel_rfl
def hallmarklaw4_few.id : FuncId := 6
@[simp] theorem hallmarklaw4_few.okf : okFunc Try.prog hallmarklaw4_few.id = true := by kernel_rfl
def hallmarklaw4_known.id : FuncId := 7
@[simp] theorem hallmarklaw4_known.okf : okFunc Try.prog hallmarklaw4_known.id = true := by kernel_rfl
def hallmarklaw4_right.id : FuncId := 8
@[simp] theorem hallmarklaw4_right.okf : okFunc Try.prog hallmarklaw4_right.id = true := by kernel_rfl
def model_Worth.id : FuncId := 9
@[simp] theorem model_Worth.okf : okFunc Try.prog model_Worth.id = true := by kernel_rfl
def hallmarklaw4_inside.id : FuncId := 10
@[simp] theorem hallmarklaw4_inside.okf : okFunc Try.prog hallmarklaw4_inside.id = true := by kernel_rfl
def model_Floor.id : FuncId := 11
@[simp] theorem model_Floor.okf : okFunc Try.prog model_Floor.id = true := by kernel_rfl
def model_Ceil.id : FuncId := 12
@[simp] theorem model_Ceil.okf : okFunc Try.prog model_Ceil.id = true := by kernel_rfl
def model_Holds.id : FuncId := 13
@[simp] theorem model_Holds.okf : okFunc Try.prog model_Holds.id = true := by kernel_rfl
def hallmarklaw4_names.id : FuncId := 14
@[simp] theorem hallmarklaw4_names.okf : okFunc Try.prog hallmarklaw4_names.id = true := by kernel_rfl
def hallmarklaw4_tables.id : FuncId := 15
@[simp] theorem hallmarklaw4_tables.okf : okFunc Try.prog hallmarklaw4_tables.id = true := by kernel_rfl
def hallmarklaw4_counts.id : FuncId := 16
@[simp] theorem hallmarklaw4_counts.okf : okFunc Try.prog hallmarklaw4_counts.id = true := by kernel_rfl
def model_Copy.id : FuncId := 17
@[simp] theorem model_Copy.okf : okFunc Try.prog model_Copy.id = true := by kernel_rfl
def model_Solution.id : FuncId := 18
@[simp] theorem model_Solution.okf : okFunc Try.prog model_Solution.id = true := by kernel_rfl
def hallmarkroom_Many.id : FuncId := 19
@[simp] theorem hallmarkroom_Many.okf : okFunc Try.prog hallmarkroom_Many.id = true := by kernel_rfl
def hallmarkroom_Count_Model.id : FuncId := 20
@[simp] theorem hallmarkroom_Count_Model.okf : okFunc Try.prog hallmarkroom_Count_Model.id = true := by kernel_rfl
def hallmarkroom_Count_Add.id : FuncId := 21
@[simp] theorem hallmarkroom_Count_Add.okf : okFunc Try.prog hallmarkroom_Count_Add.id = true := by kernel_rfl
def hallmarkroom_Count_Ok.id : FuncId := 22
@[simp] theorem hallmarkroom_Count_Ok.okf : okFunc Try.prog hallmarkroom_Count_Ok.id = true := by kernel_rfl
def hallmarklaw4_two.id : FuncId := 23
@[simp] theorem hallmarklaw4_two.okf : okFunc Try.prog hallmarklaw4_two.id = true := by kernel_rfl
def model_Check.id : FuncId := 24
@[simp] theorem model_Check.okf : okFunc Try.prog model_Check.id = true := by kernel_rfl
def model_Product.id : FuncId := 25
@[simp] theorem model_Product.okf : okFunc Try.prog model_Product.id = true := by kernel_rfl
def model_right.id : FuncId := 26
@[simp] theorem model_right.okf : okFunc Try.prog model_right.id = true := by kernel_rfl
def model_sized.id : FuncId := 27
@[simp] theorem model_sized.okf : okFunc Try.prog model_sized.id = true := by kernel_rfl
def model_sum.id : FuncId := 28
@[simp] theorem model_sum.okf : okFunc Try.prog model_sum.id = true := by kernel_rfl
def model_Worth_1.id : FuncId := 29
@[simp] theorem model_Worth_1.okf : okFunc Try.prog model_Worth_1.id = true := by kernel_rfl
def hallmarklaw4_place.id : FuncId := 30
@[simp] theorem hallmarklaw4_place.okf : okFunc Try.prog hallmarklaw4_place.id = true := by kernel_rfl
def model_ends.id : FuncId := 31
@[simp] theorem model_ends.okf : okFunc Try.prog model_ends.id = true := by kernel_rfl
def model_con.id : FuncId := 32
@[simp] theorem model_con.okf : okFunc Try.prog model_con.id = true := by kernel_rfl
def model_kinds.id : FuncId := 33
@[simp] theorem model_kinds.okf : okFunc Try.prog model_kinds.id = true := by kernel_rfl
def model_Holds_1.id : FuncId := 34
@[simp] theorem model_Holds_1.okf : okFunc Try.prog model_Holds_1.id = true := by kernel_rfl
def hallmarklaw4_may.id : FuncId := 35
@[simp] theorem hallmarklaw4_may.okf : okFunc Try.prog hallmarklaw4_may.id = true := by kernel_rfl
def slices_Clone_Lapi_Var_api_Var.id : FuncId := 36
@[simp] theorem slices_Clone_Lapi_Var_api_Var.okf : okFunc Try.prog slices_Clone_Lapi_Var_api_Var.id = true := by kernel_rfl
def slices_Clone_Lapi_Term_api_Term.id : FuncId := 37
@[simp] theorem slices_Clone_Lapi_Term_api_Term.okf : okFunc Try.prog slices_Clone_Lapi_Term_api_Term.id = true := by kernel_rfl
def slices_Clone_Lapi_Con_api_Con.id : FuncId := 38
@[simp] theorem slices_Clone_Lapi_Con_api_Con.okf : okFunc Try.prog slices_Clone_Lapi_Con_api_Con.id = true := by kernel_rfl
def slices_Clone_Lint_int.id : FuncId := 39
@[simp] theorem slices_Clone_Lint_int.okf : okFunc Try.prog slices_Clone_Lint_int.id = true := by kernel_rfl
def slices_Clone_LLint_Lint.id : FuncId := 40
@[simp] theorem slices_Clone_LLint_Lint.okf : okFunc Try.prog slices_Clone_LLint_Lint.id = true := by kernel_rfl
def slices_ContainsFunc_Lapi_Con_api_Con.id : FuncId := 41
@[simp] theorem slices_ContainsFunc_Lapi_Con_api_Con.okf : okFunc Try.prog slices_ContainsFunc_Lapi_Con_api_Con.id = true := by kernel_rfl
def model_Solution_1.id : FuncId := 42
@[simp] theorem model_Solution_1.okf : okFunc Try.prog model_Solution_1.id = true := by kernel_rfl
def hallmarkroom_Count_Text.id : FuncId := 43
@[simp] theorem hallmarkroom_Count_Text.okf : okFunc Try.prog hallmarkroom_Count_Text.id = true := by kernel_rfl
def hallmarkroom_Count_Con.id : FuncId := 44
@[simp] theorem hallmarkroom_Count_Con.okf : okFunc Try.prog hallmarkroom_Count_Con.id = true := by kernel_rfl
def model_variable.id : FuncId := 45
@[simp] theorem model_variable.okf : okFunc Try.prog model_variable.id = true := by kernel_rfl
def model_goal.id : FuncId := 46
@[simp] theorem model_goal.okf : okFunc Try.prog model_goal.id = true := by kernel_rfl
def model_great.id : FuncId := 47
@[simp] theorem model_great.okf : okFunc Try.prog model_great.id = true := by kernel_rfl
def model_terms.id : FuncId := 48
@[simp] theorem model_terms.okf : okFunc Try.prog model_terms.id = true := by kernel_rfl
def model_con_1.id : FuncId := 49
@[simp] theorem model_con_1.okf : okFunc Try.prog model_con_1.id = true := by kernel_rfl
def model_field.id : FuncId := 50
@[simp] theorem model_field.okf : okFunc Try.prog model_field.id = true := by kernel_rfl
def model_counts.id : FuncId := 51
@[simp] theorem model_counts.okf : okFunc Try.prog model_counts.id = true := by kernel_rfl
def model_wide.id : FuncId := 52
@[simp] theorem model_wide.okf : okFunc Try.prog model_wide.id = true := by kernel_rfl
def slices_ContainsFunc_Lint_int.id : FuncId := 53
@[simp] theorem slices_ContainsFunc_Lint_int.okf : okFunc Try.prog slices_ContainsFunc_Lint_int.id = true := by kernel_rfl
def model_within.id : FuncId := 54
@[simp] theorem model_within.okf : okFunc Try.prog model_within.id = true := by kernel_rfl
def slices_ContainsFunc_LLint_Lint.id : FuncId := 55
@[simp] theorem slices_ContainsFunc_LLint_Lint.okf : okFunc Try.prog slices_ContainsFunc_LLint_Lint.id = true := by kernel_rfl
def model_lin.id : FuncId := 56
@[simp] theorem model_lin.okf : okFunc Try.prog model_lin.id = true := by kernel_rfl
def model_kinds_1.id : FuncId := 57
@[simp] theorem model_kinds_1.okf : okFunc Try.prog model_kinds_1.id = true := by kernel_rfl
def model_allDiff.id : FuncId := 58
@[simp] theorem model_allDiff.okf : okFunc Try.prog model_allDiff.id = true := by kernel_rfl
def model_element.id : FuncId := 59
@[simp] theorem model_element.okf : okFunc Try.prog model_element.id = true := by kernel_rfl
def model_kinds_2.id : FuncId := 60
@[simp] theorem model_kinds_2.okf : okFunc Try.prog model_kinds_2.id = true := by kernel_rfl
def slices_Max_Lint_int.id : FuncId := 61
@[simp] theorem slices_Max_Lint_int.okf : okFunc Try.prog slices_Max_Lint_int.id = true := by kernel_rfl
def model_each.id : FuncId := 62
@[simp] theorem model_each.okf : okFunc Try.prog model_each.id = true := by kernel_rfl
def model_kinds_3.id : FuncId := 63
@[simp] theorem model_kinds_3.okf : okFunc Try.prog model_kinds_3.id = true := by kernel_rfl
def slices_Min_Lint_int.id : FuncId := 64
@[simp] theorem slices_Min_Lint_int.okf : okFunc Try.prog slices_Min_Lint_int.id = true := by kernel_rfl
def model_reif.id : FuncId := 65
@[simp] theorem model_reif.okf : okFunc Try.prog model_reif.id = true := by kernel_rfl
def model_table.id : FuncId := 66
@[simp] theorem model_table.okf : okFunc Try.prog model_table.id = true := by kernel_rfl
def model_count.id : FuncId := 67
@[simp] theorem model_count.okf : okFunc Try.prog model_count.id = true := by kernel_rfl
def slices_IndexFunc_Lapi_Con_api_Con.id : FuncId := 68
@[simp] theorem slices_IndexFunc_Lapi_Con_api_Con.okf : okFunc Try.prog slices_IndexFunc_Lapi_Con_api_Con.id = true := by kernel_rfl
def hallmarkroom_Count_Lists.id : FuncId := 69
@[simp] theorem hallmarkroom_Count_Lists.okf : okFunc Try.prog hallmarkroom_Count_Lists.id = true := by kernel_rfl
def model_isName.id : FuncId := 70
@[simp] theorem model_isName.okf : okFunc Try.prog model_isName.id = true := by kernel_rfl
def slices_ContainsFunc_Lapi_Var_api_Var.id : FuncId := 71
@[simp] theorem slices_ContainsFunc_Lapi_Var_api_Var.okf : okFunc Try.prog slices_ContainsFunc_Lapi_Var_api_Var.id = true := by kernel_rfl
def model_variable_1.id : FuncId := 72
@[simp] theorem model_variable_1.okf : okFunc Try.prog model_variable_1.id = true := by kernel_rfl
def model_great_1.id : FuncId := 73
@[simp] theorem model_great_1.okf : okFunc Try.prog model_great_1.id = true := by kernel_rfl
def model_wide_1.id : FuncId := 74
@[simp] theorem model_wide_1.okf : okFunc Try.prog model_wide_1.id = true := by kernel_rfl
def slices_IndexFunc_Lint_int.id : FuncId := 75
@[simp] theorem slices_IndexFunc_Lint_int.okf : okFunc Try.prog slices_IndexFunc_Lint_int.id = true := by kernel_rfl
def slices_IndexFunc_LLint_Lint.id : FuncId := 76
@[simp] theorem slices_IndexFunc_LLint_Lint.okf : okFunc Try.prog slices_IndexFunc_LLint_Lint.id = true := by kernel_rfl
def model_is.id : FuncId := 77
@[simp] theorem model_is.okf : okFunc Try.prog model_is.id = true := by kernel_rfl
def slices_Compact_Lint_int.id : FuncId := 79
@[simp] theorem slices_Compact_Lint_int.okf : okFunc Try.prog slices_Compact_Lint_int.id = true := by kernel_rfl
def model_table_1.id : FuncId := 80
@[simp] theorem model_table_1.okf : okFunc Try.prog model_table_1.id = true := by kernel_rfl
def slices_Equal_Lint_int.id : FuncId := 81
@[simp] theorem slices_Equal_Lint_int.okf : okFunc Try.prog slices_Equal_Lint_int.id = true := by kernel_rfl
def slices_IndexFunc_Lapi_Var_api_Var.id : FuncId := 82
@[simp] theorem slices_IndexFunc_Lapi_Var_api_Var.okf : okFunc Try.prog slices_IndexFunc_Lapi_Var_api_Var.id = true := by kernel_rfl
-- hallmark/hallmarklaw4.ModelWorth
def hallmarklaw4_ModelWorth.ann : List (Nat × RA) := [(0, { gs := [], keep := some [1, 2] }), (1, { gs := [], keep := some [1, 2, 14] }), (2, { gs := [], keep := some [4] }), (3, { gs := [], keep := some [1, 2, 16] }), (4, { gs := [], keep := some [4] }), (5, { gs := [], keep := some [1, 2, 24] }), (6, { gs := [], keep := some [4] }), (7, { gs := [], keep := some [2, 5], ord := [0, 1, 2, 3, 4, 5], aps := [(4, [1000001])] }), (8, { gs := [], keep := some [2, 39], aps := [(2, [1000001]), (7, [1000001])] }), (9, { gs := [], keep := some [4] }), (10, { gs := [], keep := some [2, 6, 7], ord := [0, 2, 1, 3, 4, 5], aps := [(1, [1000002]), (3, [1000002])] }), (11, { gs := [], keep := some [2, 6, 7, 8] }), (12, { gs := [], keep := some [2, 6, 7, 8, 48] }), (13, { gs := [], keep := some [2, 6, 7, 8] }), (14, { gs := [], keep := some [2, 6, 7, 8, 9] }), (15, { gs := [], keep := some [2, 6, 7, 8, 9, 10] }), (16, { gs := [], keep := some [2, 6, 7, 8, 9, 10, 58] }), (17, { gs := [], keep := some [2, 6, 7, 8, 9, 10] }), (18, { gs := [], keep := some [2, 6, 7, 8, 9, 10, 69], ord := [0, 1, 2, 3, 4, 5, 6, 7, 8] }), (19, { gs := [], keep := some [4] }), (20, { gs := [], keep := some [2, 6, 7, 8, 9], ord := [0, 1, 2, 3, 4, 5, 6, 7, 8, 9, 10, 11, 12, 13, 14, 15, 16, 17, 18, 19, 20, 21, 22, 23], aps := [(21, [74])] }), (21, { gs := [], keep := some [2, 6, 7, 8, 9, 94] }), (22, { gs := [], keep := some [2, 6, 7, 8], ord := [0, 1, 2, 3, 4, 5, 6, 7, 8, 9, 10, 11, 12, 13, 14, 15, 16, 17, 18, 19], aps := [(17, [99])] }), (23, { gs := [], keep := some [4], ord := [0, 1, 3, 2, 4, 5, 6, 7, 8, 10, 9, 11, 12, 13, 14], aps := [(2, [1000001]), (4, [1000001]), (9, [1000001]), (11, [1000001])] })]
def hallmarklaw4_ModelWorth.b1 : C := .seq (.seq (.reg 0 [.o 0 (.lt (some 56) (.mov (.tmp 10))),
    .o 1 (.lt (some 57) (.mov (.tmp 8))),
    .o 2 (.lt (some 58) (.bin .lss (.tmp 56) (.tmp 57))),
    .g (.keep [2, 6, 7, 8, 9, 10, 58])]) (.cond (.tmp 58) (.skip) (.exit 2))) (.seq (.block 3 (.seq (.reg 0 [.o 0 (.lt (some 61) (.fad (.tmp 2) 3)),
    .o 1 (.lt (some 62) (.ld false 1 (.tmp 61))),
    .o 2 (.lt (some 63) (.mov (.tmp 10))),
    .o 3 (.lt (some 64) (.ixS 2 (.tmp 62) (.tmp 63))),
    .o 4 (.lt (some 65) (.fad (.tmp 64) 1)),
    .o 5 (.lt (some 66) (.ld false 1 (.tmp 65))),
    .o 6 (.lt (some 67) (.fad (.tmp 9) 1)),
    .o 7 (.lt (some 68) (.ld false 1 (.tmp 67))),
    .o 8 (.lt (some 69) (.bin .eql (.tmp 66) (.tmp 68))),
    .g (.keep [2, 6, 7, 8, 9, 10, 69])]) (.cond (.tmp 69) (.seq (.reg 0 [.o 0 (.lt (some 4) (.mov (.const (.bool true)))),
    .g (.keep [4])]) (.ret)) (.skip)))) (.reg 0 [.o 0 (.lt (some 59) (.mov (.tmp 10))),
    .o 1 (.lt (some 60) (.bin .add (.tmp 59) (.const (.int .i64 1)))),
    .o 2 (.lt (some 10) (.mov (.tmp 60))),
    .g (.keep [2, 6, 7, 8, 9, 10])]))
def hallmarklaw4_ModelWorth.b0 : C := .seq (.seq (.reg 0 [.o 0 (.lt (some 44) (.mov (.tmp 8))),
    .o 1 (.lt (some 45) (.fad (.tmp 2) 3)),
    .o 2 (.lt (some 46) (.ld false 1 (.tmp 45))),
    .o 3 (.lt (some 47) (.lenSl (.tmp 46))),
    .o 4 (.lt (some 48) (.bin .lss (.tmp 44) (.tmp 47))),
    .g (.keep [2, 6, 7, 8, 48])]) (.cond (.tmp 48) (.skip) (.exit 0))) (.seq (.block 1 (.seq (.reg 1 [.o 0 (.lt (some 51) (.fad (.tmp 2) 3)),
    .o 1 (.lt (some 52) (.ld false 1 (.tmp 51))),
    .o 2 (.lt (some 53) (.mov (.tmp 8))),
    .o 3 (.lt (some 54) (.ixS 2 (.tmp 52) (.tmp 53))),
    .o 4 (.lt (some 55) (.ld true 2 (.tmp 54))),
    .o 5 (.alloc (some 9) 0 2 [.a (.int .i64 0), .a (.int .i64 0)]),
    .o 6 (.store [] 2 (.tmp 9) (.tmp 55)),
    .g (.keep [2, 6, 7, 8, 9])]) (.seq (.seq (.reg 0 [.o 0 (.lt (some 10) (.mov (.const (.int .i64 0)))),
    .g (.keep [2, 6, 7, 8, 9, 10])]) (.block 2 (.loop hallmarklaw4_ModelWorth.b1))) (.seq (.reg 0 [.o 0 (.lt (some 70) (.mov (.tmp 6))),
    .o 1 (.lt (some 71) (.fad (.tmp 9) 1)),
    .o 2 (.lt (some 72) (.ld false 1 (.tmp 71))),
    .o 3 (.lt (some 73) (.mov (.tmp 7))),
    .o 4 (.lt (some 74) (.fad (.tmp 9) 1)),
    .o 5 (.lt (some 75) (.ld false 1 (.tmp 74))),
    .o 6 (.lt (some 76) (.fad (.tmp 2) 0)),
    .o 7 (.lt (some 77) (.ld false 1 (.tmp 76))),
    .o 8 (.lt (some 78) (.fad (.tmp 9) 1)),
    .o 9 (.lt (some 79) (.ld false 1 (.tmp 78))),
    .o 10 (.lt (some 80) (.ixS 3 (.tmp 77) (.tmp 79))),
    .o 11 (.lt (some 81) (.fad (.tmp 80) 1)),
    .o 12 (.lt (some 82) (.ld false 1 (.tmp 81))),
    .o 13 (.lt (some 83) (.fad (.tmp 2) 0)),
    .o 14 (.lt (some 84) (.ld false 1 (.tmp 83))),
    .o 15 (.lt (some 85) (.fad (.tmp 9) 1)),
    .o 16 (.lt (some 86) (.ld false 1 (.tmp 85))),
    .o 17 (.lt (some 87) (.ixS 3 (.tmp 84) (.tmp 86))),
    .o 18 (.lt (some 88) (.fad (.tmp 87) 2)),
    .o 19 (.lt (some 89) (.ld false 1 (.tmp 88))),
    .o 20 (.lt (some 90) (.ixS 1 (.tmp 70) (.tmp 72))),
    .o 21 (.store [74] 1 (.tmp 90) (.tmp 82)),
    .o 22 (.lt (some 91) (.ixS 1 (.tmp 73) (.tmp 75))),
    .o 23 (.store [] 1 (.tmp 91) (.tmp 89)),
    .g (.keep [2, 6, 7, 8, 9])]) (.seq (.reg 0 [.o 0 (.lt (some 92) (.fad (.tmp 9) 0)),
    .o 1 (.lt (some 93) (.ld false 1 (.tmp 92))),
    .o 2 (.lt (some 94) (.bin .lss (.tmp 93) (.const (.int .i64 0)))),
    .g (.keep [2, 6, 7, 8, 9, 94])]) (.cond (.tmp 94) (.reg 0 [.o 0 (.lt (some 95) (.mov (.tmp 6))),
    .o 1 (.lt (some 96) (.fad (.tmp 9) 1)),
    .o 2 (.lt (some 97) (.ld false 1 (.tmp 96))),
    .o 3 (.lt (some 98) (.mov (.tmp 7))),
    .o 4 (.lt (some 99) (.fad (.tmp 9) 1)),
    .o 5 (.lt (some 100) (.ld false 1 (.tmp 99))),
    .o 6 (.lt (some 101) (.mov (.tmp 7))),
    .o 7 (.lt (some 102) (.fad (.tmp 9) 1)),
    .o 8 (.lt (some 103) (.ld false 1 (.tmp 102))),
    .o 9 (.lt (some 104) (.ixS 1 (.tmp 101) (.tmp 103))),
    .o 10 (.lt (some 105) (.ld false 1 (.tmp 104))),
    .o 11 (.lt (some 106) (.mov (.tmp 6))),
    .o 12 (.lt (some 107) (.fad (.tmp 9) 1)),
    .o 13 (.lt (some 108) (.ld false 1 (.tmp 107))),
    .o 14 (.lt (some 109) (.ixS 1 (.tmp 106) (.tmp 108))),
    .o 15 (.lt (some 110) (.ld false 1 (.tmp 109))),
    .o 16 (.lt (some 111) (.ixS 1 (.tmp 95) (.tmp 97))),
    .o 17 (.store [99] 1 (.tmp 111) (.tmp 105)),
    .o 18 (.lt (some 112) (.ixS 1 (.tmp 98) (.tmp 100))),
    .o 19 (.store [] 1 (.tmp 112) (.tmp 110)),
    .g (.keep [2, 6, 7, 8])]) (.skip))))))) (.reg 0 [.o 0 (.lt (some 49) (.mov (.tmp 8))),
    .o 1 (.lt (some 50) (.bin .add (.tmp 49) (.const (.int .i64 1)))),
    .o 2 (.lt (some 8) (.mov (.tmp 50))),
    .g (.keep [2, 6, 7, 8])]))
def hallmarklaw4_ModelWorth.ir : C := .seq (.reg 1 [.o 0 (.box (some 2) 0 4 (.tmp 0)),
    .o 1 (.lt (some 4) (.mov (.const (.bool false)))),
    .g (.keep [1, 2])]) (.seq (.seq (.reg 0 [.o 0 (.lt (some 11) (.ld true 4 (.tmp 2))),
    .o 1 (.lt (some 12) (.mov (.tmp 1))),
    .o 2 (.call (some 13) hallmarklaw4_few.id [(.tmp 11), (.tmp 12)]),
    .o 3 (.lt (some 14) (.un .not (.tmp 13))),
    .g (.keep [1, 2, 14])]) (.cond (.tmp 14) (.seq (.reg 0 [.o 0 (.lt (some 4) (.mov (.const (.bool true)))),
    .g (.keep [4])]) (.ret)) (.skip))) (.seq (.seq (.reg 0 [.o 0 (.call (some 15) hallmarklaw4_known.id []),
    .o 1 (.lt (some 16) (.un .not (.tmp 15))),
    .g (.keep [1, 2, 16])]) (.cond (.tmp 16) (.seq (.reg 0 [.o 0 (.lt (some 4) (.mov (.const (.bool false)))),
    .g (.keep [4])]) (.ret)) (.skip))) (.seq (.seq (.reg 0 [.o 0 (.lt (some 17) (.ld true 4 (.tmp 2))),
    .o 1 (.call (some 18) hallmarklaw4_right.id [(.tmp 17)]),
    .o 2 (.lt (some 19) (.un .not (.tmp 18))),
    .o 3 (.lt (some 20) (.mov (.tmp 19))),
    .gd 4 20 false (some 21) (.lt (some 21) (.fad (.tmp 2) 2)),
    .gd 5 20 false (some 22) (.lt (some 22) (.ld false 1 (.tmp 21))),
    .gd 6 20 false (some 23) (.lt (some 23) (.un .not (.tmp 22))),
    .o 7 (.lt (some 24) (.pick (.tmp 20) (.const (.bool true)) (.tmp 23))),
    .g (.keep [1, 2, 24])]) (.cond (.tmp 24) (.seq (.reg 0 [.o 0 (.lt (some 4) (.mov (.const (.bool true)))),
    .g (.keep [4])]) (.ret)) (.skip))) (.seq (.reg 0 [.o 0 (.lt (some 25) (.ld true 4 (.tmp 2))),
    .o 1 (.lt (some 26) (.ld true 4 (.tmp 2))),
    .o 2 (.lt (some 27) (.mov (.tmp 1))),
    .o 3 (.call (some 28) hallmarklaw4_inside.id [(.tmp 26), (.tmp 27)]),
    .o 4 (.callb (some 29) (.func model_Worth.id) [(.tmp 25), (.tmp 28)]),
    .o 5 (.lt (some 5) (.mov (.tmp 29))),
    .g (.keep [2, 5])]) (.seq (.seq (.reg 0 [.o 0 (.lt (some 30) (.mov (.tmp 5))),
    .o 1 (.lt (some 31) (.ld true 4 (.tmp 2))),
    .o 2 (.callb (some 32) (.func model_Floor.id) [(.tmp 31)]),
    .o 3 (.lt (some 33) (.bin .lss (.tmp 30) (.tmp 32))),
    .o 4 (.lt (some 34) (.mov (.tmp 33))),
    .gd 5 34 false (some 35) (.lt (some 35) (.mov (.tmp 5))),
    .gd 6 34 false (some 36) (.lt (some 36) (.ld true 4 (.tmp 2))),
    .gd 7 34 false (some 37) (.callb (some 37) (.func model_Ceil.id) [(.tmp 36)]),
    .gd 8 34 false (some 38) (.lt (some 38) (.bin .gtr (.tmp 35) (.tmp 37))),
    .o 9 (.lt (some 39) (.pick (.tmp 34) (.const (.bool true)) (.tmp 38))),
    .g (.keep [2, 39])]) (.cond (.tmp 39) (.seq (.reg 0 [.o 0 (.lt (some 4) (.mov (.const (.bool false)))),
    .g (.keep [4])]) (.ret)) (.skip))) (.seq (.reg 0 [.o 0 (.lt (some 40) (.ld true 4 (.tmp 2))),
    .o 2 (.lt (some 42) (.ld true 4 (.tmp 2))),
    .o 1 (.callo (some 41) (.func hallmarklaw4_inside.id) [(.tmp 40), (.const (.slice none 0 0))]),
    .o 3 (.callo (some 43) (.func hallmarklaw4_inside.id) [(.tmp 42), (.const (.slice none 0 0))]),
    .o 4 (.lt (some 6) (.mov (.tmp 41))),
    .o 5 (.lt (some 7) (.mov (.tmp 43))),
    .g (.keep [2, 6, 7])]) (.seq (.seq (.reg 0 [.o 0 (.lt (some 8) (.mov (.const (.int .i64 0)))),
    .g (.keep [2, 6, 7, 8])]) (.block 0 (.loop hallmarklaw4_ModelWorth.b0))) (.seq (.reg 0 [.o 0 (.lt (some 113) (.ld true 4 (.tmp 2))),
    .o 1 (.lt (some 114) (.mov (.tmp 6))),
    .o 3 (.lt (some 116) (.ld true 4 (.tmp 2))),
    .o 2 (.callb (some 115) (.func model_Worth.id) [(.tmp 113), (.tmp 114)]),
    .o 4 (.callb (some 117) (.func model_Floor.id) [(.tmp 116)]),
    .o 5 (.lt (some 118) (.bin .eql (.tmp 115) (.tmp 117))),
    .o 6 (.lt (some 119) (.mov (.tmp 118))),
    .gd 7 119 true (some 120) (.lt (some 120) (.ld true 4 (.tmp 2))),
    .gd 8 119 true (some 121) (.lt (some 121) (.mov (.tmp 7))),
    .gd 10 119 true (some 123) (.lt (some 123) (.ld true 4 (.tmp 2))),
    .gd 9 119 true (some 122) (.callb (some 122) (.func model_Worth.id) [(.tmp 120), (.tmp 121)]),
    .gd 11 119 true (some 124) (.callb (some 124) (.func model_Ceil.id) [(.tmp 123)]),
    .gd 12 119 true (some 125) (.lt (some 125) (.bin .eql (.tmp 122) (.tmp 124))),
    .o 13 (.lt (some 126) (.pick (.tmp 119) (.tmp 125) (.const (.bool false)))),
    .o 14 (.lt (some 4) (.mov (.tmp 126))),
    .g (.keep [4])]) (.ret)))))))))
def hallmarklaw4_ModelWorth.rs : List Rs := [.sl 4]
theorem hallmarklaw4_ModelWorth.ok : isFn Try.prog hallmarklaw4_ModelWorth.id 127 hallmarklaw4_ModelWorth.ann hallmarklaw4_ModelWorth.ir hallmarklaw4_ModelWorth.rs := ⟨Try.f3, _, Try.func3, rfl, rfl, by kernel_rfl, by kernel_rfl⟩
-- hallmark/hallmarklaw4.ModelOwn
def hallmarklaw4_ModelOwn.ann : List (Nat × RA) := [(0, { gs := [], keep := some [1, 2, 3] }), (1, { gs := [], keep := some [1, 2, 3, 25], aps := [(1, [1000004]), (4, [1000001]), (9, [1000001])] }), (2, { gs := [], keep := some [6] }), (3, { gs := [], keep := some [1, 2, 3, 27], aps := [(0, [1000001])] }), (4, { gs := [], keep := some [6] }), (5, { gs := [], keep := some [1, 2, 3, 30], aps := [(2, [1000001])] }), (6, { gs := [], keep := some [1, 2, 3, 7] }), (7, { gs := [], keep := some [1, 2, 3, 7, 8] }), (8, { gs := [], keep := some [1, 2, 3, 7, 8, 34] }), (9, { gs := [], keep := some [1, 2, 3, 7, 8] }), (10, { gs := [], keep := some [1, 2, 3, 7, 8, 59], aps := [(2, [1000001])] }), (11, { gs := [], keep := some [1, 2, 3, 7, 8], aps := [(5, [1000004])] }), (12, { gs := [], keep := some [1, 2, 3, 7, 8], aps := [(5, [1000004])] }), (13, { gs := [], keep := some [1, 3, 77], aps := [(2, [1000001])] }), (14, { gs := [], keep := some [6] }), (15, { gs := [], keep := some [1, 3, 86] }), (16, { gs := [], keep := some [6], aps := [(2, [1000001])] }), (17, { gs := [], keep := some [1, 3, 92] }), (18, { gs := [], keep := some [6], aps := [(2, [1000001])] }), (19, { gs := [], keep := some [1, 3, 103] }), (20, { gs := [], keep := some [6] }), (21, { gs := [], keep := some [1, 3, 9] }), (22, { gs := [], keep := some [1, 3, 9, 10] }), (23, { gs := [], keep := some [1, 3, 9, 10, 108] }), (24, { gs := [], keep := some [1, 3, 9, 10] }), (25, { gs := [], keep := some [1, 3, 9, 10], ord := [0, 1, 2, 3, 4, 5, 6, 7, 8, 9, 10, 11, 12, 13, 14, 15, 16, 17], aps := [(15, [1000004])] }), (26, { gs := [], keep := some [1, 3, 9, 11], aps := [(6, [1000001])] }), (27, { gs := [], keep := some [1, 3, 9, 11, 12], aps := [(6, [1000001])] }), (28, { gs := [], keep := some [1, 3, 9, 11, 12, 13], aps := [(6, [1000001])] }), (29, { gs := [], keep := some [1, 3, 11, 165], aps := [(13, [1000001])] }), (30, { gs := [], keep := some [6] }), (31, { gs := [], keep := some [1, 3, 11, 185], aps := [(18, [1000001])] }), (32, { gs := [], keep := some [6] }), (33, { gs := [], keep := some [6] })]
def hallmarklaw4_ModelOwn.b1 : C := .seq (.seq (.reg 0 [.o 0 (.lt (some 104) (.mov (.tmp 10))),
    .o 1 (.lt (some 105) (.fad (.tmp 3) 2)),
    .o 2 (.lt (some 106) (.ld false 1 (.tmp 105))),
    .o 3 (.lt (some 107) (.lenSl (.tmp 106))),
    .o 4 (.lt (some 108) (.bin .lss (.tmp 104) (.tmp 107))),
    .g (.keep [1, 3, 9, 10, 108])]) (.cond (.tmp 108) (.skip) (.exit 2))) (.seq (.block 3 (.reg 2 [.o 0 (.lt (some 111) (.mov (.tmp 9))),
    .o 1 (.lt (some 112) (.fad (.tmp 3) 2)),
    .o 2 (.lt (some 113) (.ld false 1 (.tmp 112))),
    .o 3 (.lt (some 114) (.mov (.tmp 10))),
    .o 4 (.lt (some 115) (.ixS 2 (.tmp 113) (.tmp 114))),
    .o 5 (.lt (some 116) (.fad (.tmp 115) 0)),
    .o 6 (.lt (some 117) (.ld false 1 (.tmp 116))),
    .o 7 (.lt (some 118) (.un .neg (.tmp 117))),
    .o 8 (.lt (some 119) (.fad (.tmp 3) 2)),
    .o 9 (.lt (some 120) (.ld false 1 (.tmp 119))),
    .o 10 (.lt (some 121) (.mov (.tmp 10))),
    .o 11 (.lt (some 122) (.ixS 2 (.tmp 120) (.tmp 121))),
    .o 12 (.lt (some 123) (.fad (.tmp 122) 1)),
    .o 13 (.lt (some 124) (.ld false 1 (.tmp 123))),
    .o 14 (.lt (some 125) (.build [.a (.int .i64 0), .a (.int .i64 0)] [(0, 1, (.tmp 118)), (1, 1, (.tmp 124))])),
    .o 15 (.bsv (some 126) 2 1 [.a (.int .i64 0), .a (.int .i64 0)] [(0, (.tmp 125))]),
    .o 16 (.app [] (some 127) 1 2 16 (.tmp 111) (.tmp 126)),
    .o 17 (.lt (some 9) (.mov (.tmp 127))),
    .g (.keep [1, 3, 9, 10])])) (.reg 0 [.o 0 (.lt (some 109) (.mov (.tmp 10))),
    .o 1 (.lt (some 110) (.bin .add (.tmp 109) (.const (.int .i64 1)))),
    .o 2 (.lt (some 10) (.mov (.tmp 110))),
    .g (.keep [1, 3, 9, 10])]))
def hallmarklaw4_ModelOwn.b0 : C := .seq (.seq (.reg 0 [.o 0 (.lt (some 31) (.mov (.tmp 8))),
    .o 1 (.lt (some 32) (.mov (.tmp 1))),
    .o 2 (.lt (some 33) (.lenSl (.tmp 32))),
    .o 3 (.lt (some 34) (.bin .lss (.tmp 31) (.tmp 33))),
    .g (.keep [1, 2, 3, 7, 8, 34])]) (.cond (.tmp 34) (.skip) (.exit 0))) (.seq (.block 1 (.seq (.reg 0 [.o 0 (.lt (some 37) (.ld true 10 (.tmp 3))),
    .o 1 (.lt (some 38) (.mov (.tmp 8))),
    .o 2 (.callb (some 39) (.func hallmarklaw4_names.id) [(.tmp 37), (.tmp 38)]),
    .o 3 (.lt (some 40) (.mov (.tmp 39))),
    .gd 4 40 false (some 41) (.lt (some 41) (.mov (.tmp 8))),
    .gd 5 40 false (some 42) (.lt (some 42) (.mov (.tmp 2))),
    .gd 6 40 false (some 43) (.lt (some 43) (.lenSl (.tmp 42))),
    .gd 7 40 false (some 44) (.lt (some 44) (.bin .geq (.tmp 41) (.tmp 43))),
    .o 8 (.lt (some 45) (.pick (.tmp 40) (.const (.bool true)) (.tmp 44))),
    .o 9 (.lt (some 46) (.mov (.tmp 45))),
    .gd 10 46 false (some 47) (.lt (some 47) (.mov (.tmp 2))),
    .gd 11 46 false (some 48) (.lt (some 48) (.mov (.tmp 8))),
    .gd 12 46 false (some 49) (.lt (some 49) (.ixS 1 (.tmp 47) (.tmp 48))),
    .gd 13 46 false (some 50) (.lt (some 50) (.ld false 1 (.tmp 49))),
    .gd 14 46 false (some 51) (.lt (some 51) (.bin .lss (.tmp 50) (.const (.int .i64 (-1000000000))))),
    .o 15 (.lt (some 52) (.pick (.tmp 46) (.const (.bool true)) (.tmp 51))),
    .o 16 (.lt (some 53) (.mov (.tmp 52))),
    .gd 17 53 false (some 54) (.lt (some 54) (.mov (.tmp 2))),
    .gd 18 53 false (some 55) (.lt (some 55) (.mov (.tmp 8))),
    .gd 19 53 false (some 56) (.lt (some 56) (.ixS 1 (.tmp 54) (.tmp 55))),
    .gd 20 53 false (some 57) (.lt (some 57) (.ld false 1 (.tmp 56))),
    .gd 21 53 false (some 58) (.lt (some 58) (.bin .gtr (.tmp 57) (.const (.int .i64 1000000000)))),
    .o 22 (.lt (some 59) (.pick (.tmp 53) (.const (.bool true)) (.tmp 58))),
    .g (.keep [1, 2, 3, 7, 8, 59])]) (.cond (.tmp 59) (.reg 2 [.o 0 (.lt (some 60) (.mov (.tmp 7))),
    .o 1 (.lt (some 61) (.mov (.tmp 1))),
    .o 2 (.lt (some 62) (.mov (.tmp 8))),
    .o 3 (.lt (some 63) (.ixS 1 (.tmp 61) (.tmp 62))),
    .o 4 (.lt (some 64) (.ld false 1 (.tmp 63))),
    .o 5 (.bsv (some 65) 1 1 [.a (.int .i64 0)] [(0, (.tmp 64))]),
    .o 6 (.app [] (some 66) 1 1 8 (.tmp 60) (.tmp 65)),
    .o 7 (.lt (some 7) (.mov (.tmp 66))),
    .g (.keep [1, 2, 3, 7, 8])]) (.reg 2 [.o 0 (.lt (some 67) (.mov (.tmp 7))),
    .o 1 (.lt (some 68) (.mov (.tmp 2))),
    .o 2 (.lt (some 69) (.mov (.tmp 8))),
    .o 3 (.lt (some 70) (.ixS 1 (.tmp 68) (.tmp 69))),
    .o 4 (.lt (some 71) (.ld false 1 (.tmp 70))),
    .o 5 (.bsv (some 72) 1 1 [.a (.int .i64 0)] [(0, (.tmp 71))]),
    .o 6 (.app [] (some 73) 1 1 8 (.tmp 67) (.tmp 72)),
    .o 7 (.lt (some 7) (.mov (.tmp 73))),
    .g (.keep [1, 2, 3, 7, 8])])))) (.reg 0 [.o 0 (.lt (some 35) (.mov (.tmp 8))),
    .o 1 (.lt (some 36) (.bin .add (.tmp 35) (.const (.int .i64 1)))),
    .o 2 (.lt (some 8) (.mov (.tmp 36))),
    .g (.keep [1, 2, 3, 7, 8])]))
def hallmarklaw4_ModelOwn.ir : C := .seq (.reg 1 [.o 0 (.box (some 3) 0 10 (.tmp 0)),
    .o 1 (.lt (some 6) (.mov (.const (.bool false)))),
    .g (.keep [1, 2, 3])]) (.seq (.seq (.reg 1 [.o 0 (.lt (some 14) (.ld true 10 (.tmp 3))),
    .o 1 (.bsv (some 15) 10 1 [.a (.int .i64 0), .a (.int .i64 0), .a (.slice none 0 0), .a (.int .i64 0), .a (.int .i64 0), .a (.int .i64 0), .a (.int .i64 0), .a (.slice none 0 0), .a (.slice none 0 0), .a (.slice none 0 0)] [(0, (.tmp 14))]),
    .o 2 (.lt (some 16) (.build [.a (.slice none 0 0), .a (.slice none 0 0), .a (.bool false), .a (.slice none 0 0)] [(1, 1, (.tmp 15))])),
    .o 3 (.lt (some 17) (.mov (.tmp 1))),
    .o 4 (.callb (some 18) (.func hallmarklaw4_few.id) [(.tmp 16), (.tmp 17)]),
    .o 5 (.lt (some 19) (.un .not (.tmp 18))),
    .o 6 (.lt (some 20) (.mov (.tmp 19))),
    .gd 7 20 false (some 21) (.lt (some 21) (.build [.a (.slice none 0 0), .a (.slice none 0 0), .a (.bool false), .a (.slice none 0 0)] [])),
    .gd 8 20 false (some 22) (.lt (some 22) (.mov (.tmp 2))),
    .gd 9 20 false (some 23) (.callb (some 23) (.func hallmarklaw4_few.id) [(.tmp 21), (.tmp 22)]),
    .gd 10 20 false (some 24) (.lt (some 24) (.un .not (.tmp 23))),
    .o 11 (.lt (some 25) (.pick (.tmp 20) (.const (.bool true)) (.tmp 24))),
    .g (.keep [1, 2, 3, 25])]) (.cond (.tmp 25) (.seq (.reg 0 [.o 0 (.lt (some 6) (.mov (.const (.bool true)))),
    .g (.keep [6])]) (.ret)) (.skip))) (.seq (.seq (.reg 0 [.o 0 (.callb (some 26) (.func hallmarklaw4_known.id) []),
    .o 1 (.lt (some 27) (.un .not (.tmp 26))),
    .g (.keep [1, 2, 3, 27])]) (.cond (.tmp 27) (.seq (.reg 0 [.o 0 (.lt (some 6) (.mov (.const (.bool false)))),
    .g (.keep [6])]) (.ret)) (.skip))) (.seq (.seq (.reg 0 [.o 0 (.lt (some 28) (.ld true 10 (.tmp 3))),
    .o 1 (.lt (some 29) (.mov (.tmp 1))),
    .o 2 (.callb (some 30) (.func model_Holds.id) [(.tmp 28), (.tmp 29)]),
    .g (.keep [1, 2, 3, 30])]) (.cond (.tmp 30) (.seq (.reg 0 [.o 0 (.lt (some 7) (.mov (.const (.slice none 0 0)))),
    .g (.keep [1, 2, 3, 7])]) (.seq (.seq (.reg 0 [.o 0 (.lt (some 8) (.mov (.const (.int .i64 0)))),
    .g (.keep [1, 2, 3, 7, 8])]) (.block 0 (.loop hallmarklaw4_ModelOwn.b0))) (.seq (.reg 0 [.o 0 (.lt (some 74) (.ld true 10 (.tmp 3))),
    .o 1 (.lt (some 75) (.mov (.tmp 7))),
    .o 2 (.callb (some 76) (.func model_Holds.id) [(.tmp 74), (.tmp 75)]),
    .o 3 (.lt (some 77) (.un .not (.tmp 76))),
    .g (.keep [1, 3, 77])]) (.cond (.tmp 77) (.seq (.reg 0 [.o 0 (.lt (some 6) (.mov (.const (.bool false)))),
    .g (.keep [6])]) (.ret)) (.skip))))) (.skip))) (.seq (.seq (.reg 0 [.o 0 (.lt (some 78) (.fad (.tmp 3) 0)),
    .o 1 (.lt (some 79) (.ld false 1 (.tmp 78))),
    .o 2 (.lt (some 80) (.bin .eql (.tmp 79) (.const (.int .i64 8)))),
    .o 3 (.lt (some 81) (.mov (.tmp 80))),
    .gd 4 81 true (some 82) (.lt (some 82) (.fad (.tmp 3) 9)),
    .gd 5 81 true (some 83) (.lt (some 83) (.ld false 1 (.tmp 82))),
    .gd 6 81 true (some 84) (.lt (some 84) (.lenSl (.tmp 83))),
    .gd 7 81 true (some 85) (.lt (some 85) (.bin .gtr (.tmp 84) (.const (.int .i64 0)))),
    .o 8 (.lt (some 86) (.pick (.tmp 81) (.tmp 85) (.const (.bool false)))),
    .g (.keep [1, 3, 86])]) (.cond (.tmp 86) (.seq (.reg 0 [.o 0 (.lt (some 87) (.ld true 10 (.tmp 3))),
    .o 1 (.lt (some 88) (.mov (.tmp 1))),
    .o 2 (.callb (some 89) (.func hallmarklaw4_tables.id) [(.tmp 87), (.tmp 88)]),
    .o 3 (.lt (some 6) (.mov (.tmp 89))),
    .g (.keep [6])]) (.ret)) (.skip))) (.seq (.seq (.reg 0 [.o 0 (.lt (some 90) (.fad (.tmp 3) 0)),
    .o 1 (.lt (some 91) (.ld false 1 (.tmp 90))),
    .o 2 (.lt (some 92) (.bin .eql (.tmp 91) (.const (.int .i64 9)))),
    .g (.keep [1, 3, 92])]) (.cond (.tmp 92) (.seq (.reg 0 [.o 0 (.lt (some 93) (.ld true 10 (.tmp 3))),
    .o 1 (.lt (some 94) (.mov (.tmp 1))),
    .o 2 (.callb (some 95) (.func hallmarklaw4_counts.id) [(.tmp 93), (.tmp 94)]),
    .o 3 (.lt (some 6) (.mov (.tmp 95))),
    .g (.keep [6])]) (.ret)) (.skip))) (.seq (.seq (.reg 0 [.o 0 (.lt (some 96) (.fad (.tmp 3) 0)),
    .o 1 (.lt (some 97) (.ld false 1 (.tmp 96))),
    .o 2 (.lt (some 98) (.bin .neq (.tmp 97) (.const (.int .i64 1)))),
    .o 3 (.lt (some 99) (.mov (.tmp 98))),
    .gd 4 99 true (some 100) (.lt (some 100) (.fad (.tmp 3) 0)),
    .gd 5 99 true (some 101) (.lt (some 101) (.ld false 1 (.tmp 100))),
    .gd 6 99 true (some 102) (.lt (some 102) (.bin .neq (.tmp 101) (.const (.int .i64 7)))),
    .o 7 (.lt (some 103) (.pick (.tmp 99) (.tmp 102) (.const (.bool false)))),
    .g (.keep [1, 3, 103])]) (.cond (.tmp 103) (.seq (.reg 0 [.o 0 (.lt (some 6) (.mov (.const (.bool true)))),
    .g (.keep [6])]) (.ret)) (.skip))) (.seq (.reg 0 [.o 0 (.lt (some 9) (.mov (.const (.slice none 0 0)))),
    .g (.keep [1, 3, 9])]) (.seq (.seq (.reg 0 [.o 0 (.lt (some 10) (.mov (.const (.int .i64 0)))),
    .g (.keep [1, 3, 9, 10])]) (.block 2 (.loop hallmarklaw4_ModelOwn.b1))) (.seq (.reg 0 [.o 0 (.lt (some 128) (.fad (.tmp 3) 3)),
    .o 1 (.lt (some 129) (.ld false 1 (.tmp 128))),
    .o 2 (.lt (some 130) (.fad (.tmp 3) 2)),
    .o 3 (.lt (some 131) (.ld false 1 (.tmp 130))),
    .o 4 (.lt (some 132) (.build [.a (.int .i64 0), .a (.int .i64 0), .a (.slice none 0 0), .a (.int .i64 0), .a (.int .i64 0), .a (.int .i64 0), .a (.int .i64 0), .a (.slice none 0 0), .a (.slice none 0 0), .a (.slice none 0 0)] [(0, 1, (.const (.int .i64 1))), (1, 1, (.const (.int .i64 1))), (3, 1, (.tmp 129)), (2, 1, (.tmp 131))])),
    .o 5 (.lt (some 133) (.mov (.tmp 1))),
    .o 6 (.callb (some 134) (.func model_Holds.id) [(.tmp 132), (.tmp 133)]),
    .o 7 (.lt (some 11) (.mov (.tmp 134))),
    .g (.keep [1, 3, 9, 11])]) (.seq (.reg 0 [.o 0 (.lt (some 135) (.fad (.tmp 3) 3)),
    .o 1 (.lt (some 136) (.ld false 1 (.tmp 135))),
    .o 2 (.lt (some 137) (.fad (.tmp 3) 2)),
    .o 3 (.lt (some 138) (.ld false 1 (.tmp 137))),
    .o 4 (.lt (some 139) (.build [.a (.int .i64 0), .a (.int .i64 0), .a (.slice none 0 0), .a (.int .i64 0), .a (.int .i64 0), .a (.int .i64 0), .a (.int .i64 0), .a (.slice none 0 0), .a (.slice none 0 0), .a (.slice none 0 0)] [(0, 1, (.const (.int .i64 1))), (1, 1, (.const (.int .i64 3))), (3, 1, (.tmp 136)), (2, 1, (.tmp 138))])),
    .o 5 (.lt (some 140) (.mov (.tmp 1))),
    .o 6 (.callb (some 141) (.func model_Holds.id) [(.tmp 139), (.tmp 140)]),
    .o 7 (.lt (some 12) (.mov (.tmp 141))),
    .g (.keep [1, 3, 9, 11, 12])]) (.seq (.reg 0 [.o 0 (.lt (some 142) (.fad (.tmp 3) 3)),
    .o 1 (.lt (some 143) (.ld false 1 (.tmp 142))),
    .o 2 (.lt (some 144) (.fad (.tmp 3) 2)),
    .o 3 (.lt (some 145) (.ld false 1 (.tmp 144))),
    .o 4 (.lt (some 146) (.build [.a (.int .i64 0), .a (.int .i64 0), .a (.slice none 0 0), .a (.int .i64 0), .a (.int .i64 0), .a (.int .i64 0), .a (.int .i64 0), .a (.slice none 0 0), .a (.slice none 0 0), .a (.slice none 0 0)] [(0, 1, (.const (.int .i64 1))), (1, 1, (.const (.int .i64 2))), (3, 1, (.tmp 143)), (2, 1, (.tmp 145))])),
    .o 5 (.lt (some 147) (.mov (.tmp 1))),
    .o 6 (.callb (some 148) (.func model_Holds.id) [(.tmp 146), (.tmp 147)]),
    .o 7 (.lt (some 13) (.mov (.tmp 148))),
    .g (.keep [1, 3, 9, 11, 12, 13])]) (.seq (.seq (.reg 0 [.o 0 (.lt (some 149) (.mov (.tmp 13))),
    .o 1 (.lt (some 150) (.mov (.tmp 11))),
    .o 2 (.lt (some 151) (.mov (.tmp 150))),
    .gd 3 151 true (some 152) (.lt (some 152) (.mov (.tmp 12))),
    .o 4 (.lt (some 153) (.pick (.tmp 151) (.tmp 152) (.const (.bool false)))),
    .o 5 (.lt (some 154) (.eqB true (.tmp 149) (.tmp 153))),
    .o 6 (.lt (some 155) (.mov (.tmp 154))),
    .gd 7 155 false (some 156) (.lt (some 156) (.fad (.tmp 3) 3)),
    .gd 8 155 false (some 157) (.lt (some 157) (.ld false 1 (.tmp 156))),
    .gd 9 155 false (some 158) (.lt (some 158) (.un .neg (.tmp 157))),
    .gd 10 155 false (some 159) (.lt (some 159) (.mov (.tmp 9))),
    .gd 11 155 false (some 160) (.lt (some 160) (.build [.a (.int .i64 0), .a (.int .i64 0), .a (.slice none 0 0), .a (.int .i64 0), .a (.int .i64 0), .a (.int .i64 0), .a (.int .i64 0), .a (.slice none 0 0), .a (.slice none 0 0), .a (.slice none 0 0)] [(0, 1, (.const (.int .i64 1))), (1, 1, (.const (.int .i64 3))), (3, 1, (.tmp 158)), (2, 1, (.tmp 159))])),
    .gd 12 155 false (some 161) (.lt (some 161) (.mov (.tmp 1))),
    .gd 13 155 false (some 162) (.callb (some 162) (.func model_Holds.id) [(.tmp 160), (.tmp 161)]),
    .gd 14 155 false (some 163) (.lt (some 163) (.mov (.tmp 11))),
    .gd 15 155 false (some 164) (.lt (some 164) (.eqB true (.tmp 162) (.tmp 163))),
    .o 16 (.lt (some 165) (.pick (.tmp 155) (.const (.bool true)) (.tmp 164))),
    .g (.keep [1, 3, 11, 165])]) (.cond (.tmp 165) (.seq (.reg 0 [.o 0 (.lt (some 6) (.mov (.const (.bool false)))),
    .g (.keep [6])]) (.ret)) (.skip))) (.seq (.seq (.reg 0 [.o 0 (.lt (some 166) (.fad (.tmp 3) 0)),
    .o 1 (.lt (some 167) (.ld false 1 (.tmp 166))),
    .o 2 (.lt (some 168) (.bin .eql (.tmp 167) (.const (.int .i64 7)))),
    .o 3 (.lt (some 169) (.mov (.tmp 168))),
    .gd 4 169 true (some 170) (.lt (some 170) (.fad (.tmp 3) 5)),
    .gd 5 169 true (some 171) (.lt (some 171) (.ld false 1 (.tmp 170))),
    .gd 6 169 true (some 172) (.lt (some 172) (.bin .geq (.tmp 171) (.const (.int .i64 0)))),
    .o 7 (.lt (some 173) (.pick (.tmp 169) (.tmp 172) (.const (.bool false)))),
    .o 8 (.lt (some 174) (.mov (.tmp 173))),
    .gd 9 174 true (some 175) (.lt (some 175) (.fad (.tmp 3) 5)),
    .gd 10 174 true (some 176) (.lt (some 176) (.ld false 1 (.tmp 175))),
    .gd 11 174 true (some 177) (.lt (some 177) (.mov (.tmp 1))),
    .gd 12 174 true (some 178) (.lt (some 178) (.lenSl (.tmp 177))),
    .gd 13 174 true (some 179) (.lt (some 179) (.bin .lss (.tmp 176) (.tmp 178))),
    .o 14 (.lt (some 180) (.pick (.tmp 174) (.tmp 179) (.const (.bool false)))),
    .o 15 (.lt (some 181) (.mov (.tmp 180))),
    .gd 16 181 true (some 182) (.lt (some 182) (.ld true 10 (.tmp 3))),
    .gd 17 181 true (some 183) (.lt (some 183) (.mov (.tmp 1))),
    .gd 18 181 true (some 184) (.callb (some 184) (.func model_Holds.id) [(.tmp 182), (.tmp 183)]),
    .o 19 (.lt (some 185) (.pick (.tmp 181) (.tmp 184) (.const (.bool false)))),
    .g (.keep [1, 3, 11, 185])]) (.cond (.tmp 185) (.seq (.reg 0 [.o 0 (.lt (some 186) (.mov (.tmp 1))),
    .o 1 (.lt (some 187) (.fad (.tmp 3) 5)),
    .o 2 (.lt (some 188) (.ld false 1 (.tmp 187))),
    .o 3 (.lt (some 189) (.ixS 1 (.tmp 186) (.tmp 188))),
    .o 4 (.lt (some 190) (.ld false 1 (.tmp 189))),
    .o 5 (.lt (some 191) (.bin .eql (.tmp 190) (.const (.int .i64 1)))),
    .o 6 (.lt (some 192) (.mov (.tmp 191))),
    .gd 7 192 true (some 193) (.lt (some 193) (.mov (.tmp 11))),
    .o 8 (.lt (some 194) (.pick (.tmp 192) (.tmp 193) (.const (.bool false)))),
    .o 9 (.lt (some 195) (.mov (.tmp 194))),
    .gd 10 195 false (some 196) (.lt (some 196) (.mov (.tmp 1))),
    .gd 11 195 false (some 197) (.lt (some 197) (.fad (.tmp 3) 5)),
    .gd 12 195 false (some 198) (.lt (some 198) (.ld false 1 (.tmp 197))),
    .gd 13 195 false (some 199) (.lt (some 199) (.ixS 1 (.tmp 196) (.tmp 198))),
    .gd 14 195 false (some 200) (.lt (some 200) (.ld false 1 (.tmp 199))),
    .gd 15 195 false (some 201) (.lt (some 201) (.bin .eql (.tmp 200) (.const (.int .i64 0)))),
    .gd 16 195 false (some 202) (.lt (some 202) (.mov (.tmp 201))),
    .gd 17 202 true (some 203) (.lt (some 203) (.mov (.tmp 11))),
    .gd 18 202 true (some 204) (.lt (some 204) (.un .not (.tmp 203))),
    .gd 19 195 false (some 205) (.lt (some 205) (.pick (.tmp 202) (.tmp 204) (.const (.bool false)))),
    .o 20 (.lt (some 206) (.pick (.tmp 195) (.const (.bool true)) (.tmp 205))),
    .o 21 (.lt (some 6) (.mov (.tmp 206))),
    .g (.keep [6])]) (.ret)) (.skip))) (.seq (.reg 0 [.o 0 (.lt (some 6) (.mov (.const (.bool true)))),
    .g (.keep [6])]) (.ret)))))))))))))))
def hallmarklaw4_ModelOwn.rs : List Rs := [.sl 6]
theorem hallmarklaw4_ModelOwn.ok : isFn Try.prog hallmarklaw4_ModelOwn.id 207 hallmarklaw4_ModelOwn.ann hallmarklaw4_ModelOwn.ir hallmarklaw4_ModelOwn.rs := ⟨Try.f4, _, Try.func4, rfl, rfl, by kernel_rfl, by kernel_rfl⟩
-- hallmark/hallmarklaw4.ModelMore
def hallmarklaw4_ModelMore.ann : List (Nat × RA) := [(0, { gs := [], keep := some [2, 3, 4] }), (1, { gs := [], keep := some [2, 3, 4, 19], aps := [(6, [1000004])] }), (2, { gs := [], keep := some [6] }), (3, { gs := [], keep := some [2, 3, 4, 21] }), (4, { gs := [], keep := some [6] }), (5, { gs := [], keep := some [2, 3, 4, 7], aps := [(1, [1000002])] }), (6, { gs := [], keep := some [2, 3, 4, 7], aps := [(3, [1000004])] }), (7, { gs := [], keep := some [2, 3, 4, 7, 37], aps := [(1, [1000001]), (5, [1000001])] }), (8, { gs := [], keep := some [6] }), (9, { gs := [], keep := some [3, 4, 7, 8], aps := [(2, [1000002])] }), (10, { gs := [], keep := some [6], ord := [0, 1, 3, 4, 2, 5, 6, 7, 8, 9, 10, 11, 12, 13, 14, 15, 16, 17, 18, 19, 20], aps := [(2, [1000001]), (5, [1000001]), (9, [1000001]), (15, [1000004]), (16, [3]), (17, [1000001])] })]
def hallmarklaw4_ModelMore.ir : C := .seq (.reg 2 [.o 0 (.box (some 3) 0 4 (.tmp 0)),
    .o 1 (.box (some 4) 1 10 (.tmp 1)),
    .o 2 (.lt (some 6) (.mov (.const (.bool false)))),
    .g (.keep [2, 3, 4])]) (.seq (.seq (.reg 1 [.o 0 (.lt (some 9) (.ld true 4 (.tmp 3))),
    .o 1 (.lt (some 10) (.mov (.tmp 2))),
    .o 2 (.call (some 11) hallmarklaw4_few.id [(.tmp 9), (.tmp 10)]),
    .o 3 (.lt (some 12) (.un .not (.tmp 11))),
    .o 4 (.lt (some 13) (.mov (.tmp 12))),
    .gd 5 13 false (some 14) (.lt (some 14) (.ld true 10 (.tmp 4))),
    .gd 6 13 false (some 15) (.bsv (some 15) 10 1 [.a (.int .i64 0), .a (.int .i64 0), .a (.slice none 0 0), .a (.int .i64 0), .a (.int .i64 0), .a (.int .i64 0), .a (.int .i64 0), .a (.slice none 0 0), .a (.slice none 0 0), .a (.slice none 0 0)] [(0, (.tmp 14))]),
    .gd 7 13 false (some 16) (.lt (some 16) (.build [.a (.slice none 0 0), .a (.slice none 0 0), .a (.bool false), .a (.slice none 0 0)] [(1, 1, (.tmp 15))])),
    .gd 8 13 false (some 17) (.call (some 17) hallmarklaw4_few.id [(.tmp 16), (.const (.slice none 0 0))]),
    .gd 9 13 false (some 18) (.lt (some 18) (.un .not (.tmp 17))),
    .o 10 (.lt (some 19) (.pick (.tmp 13) (.const (.bool true)) (.tmp 18))),
    .g (.keep [2, 3, 4, 19])]) (.cond (.tmp 19) (.seq (.reg 0 [.o 0 (.lt (some 6) (.mov (.const (.bool true)))),
    .g (.keep [6])]) (.ret)) (.skip))) (.seq (.seq (.reg 0 [.o 0 (.call (some 20) hallmarklaw4_known.id []),
    .o 1 (.lt (some 21) (.un .not (.tmp 20))),
    .g (.keep [2, 3, 4, 21])]) (.cond (.tmp 21) (.seq (.reg 0 [.o 0 (.lt (some 6) (.mov (.const (.bool false)))),
    .g (.keep [6])]) (.ret)) (.skip))) (.seq (.reg 1 [.o 0 (.lt (some 22) (.ld true 4 (.tmp 3))),
    .o 1 (.callo (some 23) (.func model_Copy.id) [(.tmp 22)]),
    .o 2 (.alloc (some 7) 0 4 [.a (.slice none 0 0), .a (.slice none 0 0), .a (.bool false), .a (.slice none 0 0)]),
    .o 3 (.store [] 4 (.tmp 7) (.tmp 23)),
    .g (.keep [2, 3, 4, 7])]) (.seq (.reg 2 [.o 0 (.lt (some 24) (.fad (.tmp 7) 1)),
    .o 1 (.lt (some 25) (.ld false 1 (.tmp 24))),
    .o 2 (.lt (some 26) (.ld true 10 (.tmp 4))),
    .o 3 (.bsv (some 27) 10 1 [.a (.int .i64 0), .a (.int .i64 0), .a (.slice none 0 0), .a (.int .i64 0), .a (.int .i64 0), .a (.int .i64 0), .a (.int .i64 0), .a (.slice none 0 0), .a (.slice none 0 0), .a (.slice none 0 0)] [(0, (.tmp 26))]),
    .o 4 (.app [] (some 28) 1 10 144 (.tmp 25) (.tmp 27)),
    .o 5 (.lt (some 29) (.fad (.tmp 7) 1)),
    .o 6 (.store [] 1 (.tmp 29) (.tmp 28)),
    .g (.keep [2, 3, 4, 7])]) (.seq (.seq (.reg 0 [.o 0 (.lt (some 30) (.ld true 4 (.tmp 3))),
    .o 1 (.callb (some 31) (.func hallmarklaw4_right.id) [(.tmp 30)]),
    .o 2 (.lt (some 32) (.un .not (.tmp 31))),
    .o 3 (.lt (some 33) (.mov (.tmp 32))),
    .gd 4 33 false (some 34) (.lt (some 34) (.ld true 4 (.tmp 7))),
    .gd 5 33 false (some 35) (.callb (some 35) (.func hallmarklaw4_right.id) [(.tmp 34)]),
    .gd 6 33 false (some 36) (.lt (some 36) (.un .not (.tmp 35))),
    .o 7 (.lt (some 37) (.pick (.tmp 33) (.const (.bool true)) (.tmp 36))),
    .g (.keep [2, 3, 4, 7, 37])]) (.cond (.tmp 37) (.seq (.reg 0 [.o 0 (.lt (some 6) (.mov (.const (.bool true)))),
    .g (.keep [6])]) (.ret)) (.skip))) (.seq (.reg 0 [.o 0 (.lt (some 38) (.ld true 4 (.tmp 3))),
    .o 1 (.lt (some 39) (.mov (.tmp 2))),
    .o 2 (.callo (some 40) (.func hallmarklaw4_inside.id) [(.tmp 38), (.tmp 39)]),
    .o 3 (.lt (some 8) (.mov (.tmp 40))),
    .g (.keep [3, 4, 7, 8])]) (.seq (.reg 2 [.o 0 (.lt (some 41) (.ld true 4 (.tmp 7))),
    .o 1 (.lt (some 42) (.mov (.tmp 8))),
    .o 3 (.lt (some 44) (.ld true 4 (.tmp 3))),
    .o 4 (.lt (some 45) (.mov (.tmp 8))),
    .o 2 (.callb (some 43) (.func model_Solution.id) [(.tmp 41), (.tmp 42)]),
    .o 5 (.callb (some 46) (.func model_Solution.id) [(.tmp 44), (.tmp 45)]),
    .o 6 (.lt (some 47) (.mov (.tmp 46))),
    .gd 7 47 true (some 48) (.lt (some 48) (.ld true 10 (.tmp 4))),
    .gd 8 47 true (some 49) (.lt (some 49) (.mov (.tmp 8))),
    .gd 9 47 true (some 50) (.callb (some 50) (.func model_Holds.id) [(.tmp 48), (.tmp 49)]),
    .o 10 (.lt (some 51) (.pick (.tmp 47) (.tmp 50) (.const (.bool false)))),
    .o 11 (.lt (some 52) (.eqB false (.tmp 43) (.tmp 51))),
    .o 12 (.lt (some 53) (.mov (.tmp 52))),
    .gd 13 53 true (some 54) (.lt (some 54) (.ld true 4 (.tmp 3))),
    .gd 14 53 true (some 55) (.lt (some 55) (.mov (.tmp 8))),
    .gd 15 53 true (some 56) (.bsv (some 56) 1 1 [.a (.int .i64 0)] [(0, (.const (.int .i64 0)))]),
    .gd 16 53 true (some 57) (.app [3] (some 57) 1 1 8 (.tmp 55) (.tmp 56)),
    .gd 17 53 true (some 58) (.callb (some 58) (.func model_Solution.id) [(.tmp 54), (.tmp 57)]),
    .gd 18 53 true (some 59) (.lt (some 59) (.un .not (.tmp 58))),
    .o 19 (.lt (some 60) (.pick (.tmp 53) (.tmp 59) (.const (.bool false)))),
    .o 20 (.lt (some 6) (.mov (.tmp 60))),
    .g (.keep [6])]) (.ret))))))))
def hallmarklaw4_ModelMore.rs : List Rs := [.sl 6]
theorem hallmarklaw4_ModelMore.ok : isFn Try.prog hallmarklaw4_ModelMore.id 61 hallmarklaw4_ModelMore.ann hallmarklaw4_ModelMore.ir hallmarklaw4_ModelMore.rs := ⟨Try.f5, _, Try.func5, rfl, rfl, by kernel_rfl, by kernel_rfl⟩
-- hallmark/hallmarklaw4.few
def hallmarklaw4_few.ann : List (Nat × RA) := [(0, { gs := [], keep := some [1, 2] }), (1, { gs := [], keep := some [1, 2, 5], aps := [(0, [1000000])] }), (2, { gs := [], keep := some [1, 5], aps := [(2, [1000000])] }), (3, { gs := [], keep := some [5], aps := [(3, [1000000])] }), (4, { gs := [], keep := some [4], aps := [(1, [1000000])] })]
def hallmarklaw4_few.ir : C := .seq (.reg 1 [.o 0 (.box (some 2) 0 4 (.tmp 0)),
    .o 1 (.lt (some 4) (.mov (.const (.bool false)))),
    .g (.keep [1, 2])]) (.seq (.reg 0 [.o 0 (.callm (some 6) (.func hallmarkroom_Many.id) [(.const (.int .i64 20000))]),
    .o 1 (.lt (some 5) (.mov (.tmp 6))),
    .g (.keep [1, 2, 5])]) (.seq (.reg 0 [.o 0 (.lt (some 7) (.mov (.tmp 5))),
    .o 1 (.lt (some 8) (.ld true 4 (.tmp 2))),
    .o 2 (.callm (some 9) (.func hallmarkroom_Count_Model.id) [(.tmp 7), (.tmp 8)]),
    .g (.keep [1, 5])]) (.seq (.reg 0 [.o 0 (.lt (some 10) (.mov (.tmp 5))),
    .o 1 (.lt (some 11) (.mov (.tmp 1))),
    .o 2 (.lt (some 12) (.lenSl (.tmp 11))),
    .o 3 (.callm (some 13) (.func hallmarkroom_Count_Add.id) [(.tmp 10), (.tmp 12)]),
    .g (.keep [5])]) (.seq (.reg 0 [.o 0 (.lt (some 14) (.mov (.tmp 5))),
    .o 1 (.callm (some 15) (.func hallmarkroom_Count_Ok.id) [(.tmp 14)]),
    .o 2 (.lt (some 4) (.mov (.tmp 15))),
    .g (.keep [4])]) (.ret)))))
def hallmarklaw4_few.rs : List Rs := [.sl 4]
theorem hallmarklaw4_few.ok : isFn Try.prog hallmarklaw4_few.id 16 hallmarklaw4_few.ann hallmarklaw4_few.ir hallmarklaw4_few.rs := ⟨Try.f6, _, Try.func6, rfl, rfl, by kernel_rfl, by kernel_rfl⟩
-- hallmark/hallmarklaw4.known
def hallmarklaw4_known.ann : List (Nat × RA) := [(0, { gs := [], keep := some [] }), (1, { gs := [], keep := some [1] }), (2, { gs := [], keep := some [1, 2] }), (3, { gs := [], keep := some [1, 2, 3] }), (4, { gs := [], keep := some [1, 2, 3, 4] }), (5, { gs := [], keep := some [1, 2, 3, 4, 5], aps := [(2, [1000001]), (6, [1000001]), (11, [1000001]), (16, [1000001]), (21, [1000001])] }), (6, { gs := [], keep := some [5, 6], aps := [(2, [1000001]), (6, [1000001]), (11, [1000001]), (16, [1000001]), (21, [1000001])] }), (7, { gs := [(3, [.frz 74, .frz 75])], keep := some [5, 6, 7] }), (8, { gs := [], keep := some [5, 6, 7, 8] }), (9, { gs := [], keep := some [5, 6, 99], aps := [(2, [1000001]), (7, [1000001]), (12, [1000001]), (18, [1000001])] }), (10, { gs := [], keep := some [0] }), (11, { gs := [], keep := some [5, 6, 9], aps := [(0, [1000002])] }), (12, { gs := [], keep := some [5, 6, 9, 10, 11], aps := [(1, [1000001])] }), (13, { gs := [], keep := some [5, 6, 9, 10, 11, 12, 13], aps := [(1, [1000001])] }), (14, { gs := [], keep := some [5, 6, 9, 10, 11, 12, 13, 15], aps := [(1, [1000001])] }), (15, { gs := [], keep := some [9, 161], aps := [(15, [1000001]), (20, [1000001]), (37, [1000001]), (43, [1000001])] }), (16, { gs := [], keep := some [0] }), (17, { gs := [], keep := some [9] }), (18, { gs := [], keep := some [11], aps := [(1, [1000001])] }), (19, { gs := [], keep := some [0] })]
def hallmarklaw4_known.ir : C := .seq (.reg 0 [.o 0 (.lt (some 0) (.mov (.const (.bool false)))),
    .g (.keep [])]) (.seq (.reg 2 [.o 0 (.lt (some 16) (.build [.a (.int .i64 0), .a (.int .i64 0)] [(0, 1, (.const (.int .i64 2))), (1, 1, (.const (.int .i64 0)))])),
    .o 1 (.lt (some 17) (.build [.a (.int .i64 0), .a (.int .i64 0)] [(0, 1, (.const (.int .i64 (-1)))), (1, 1, (.const (.int .i64 1)))])),
    .o 2 (.bsl (some 18) 0 2 2 [.a (.int .i64 0), .a (.int .i64 0)] [(0, (.tmp 16)), (1, (.tmp 17))]),
    .o 3 (.lt (some 19) (.build [.a (.int .i64 0), .a (.int .i64 0), .a (.slice none 0 0), .a (.int .i64 0), .a (.int .i64 0), .a (.int .i64 0), .a (.int .i64 0), .a (.slice none 0 0), .a (.slice none 0 0), .a (.slice none 0 0)] [(0, 1, (.const (.int .i64 1))), (1, 1, (.const (.int .i64 1))), (3, 1, (.const (.int .i64 4))), (2, 1, (.tmp 18))])),
    .o 4 (.alloc (some 1) 1 10 [.a (.int .i64 0), .a (.int .i64 0), .a (.slice none 0 0), .a (.int .i64 0), .a (.int .i64 0), .a (.int .i64 0), .a (.int .i64 0), .a (.slice none 0 0), .a (.slice none 0 0), .a (.slice none 0 0)]),
    .o 5 (.store [] 10 (.tmp 1) (.tmp 19)),
    .g (.keep [1])]) (.seq (.reg 1 [.o 0 (.lt (some 20) (.build [.a (.int .i64 0), .a (.int .i64 0), .a (.slice none 0 0), .a (.int .i64 0), .a (.int .i64 0), .a (.int .i64 0), .a (.int .i64 0), .a (.slice none 0 0), .a (.slice none 0 0), .a (.slice none 0 0)] [(0, 1, (.const (.int .i64 2))), (5, 1, (.const (.int .i64 0))), (6, 1, (.const (.int .i64 1))), (3, 1, (.const (.int .i64 1)))])),
    .o 1 (.alloc (some 2) 0 10 [.a (.int .i64 0), .a (.int .i64 0), .a (.slice none 0 0), .a (.int .i64 0), .a (.int .i64 0), .a (.int .i64 0), .a (.int .i64 0), .a (.slice none 0 0), .a (.slice none 0 0), .a (.slice none 0 0)]),
    .o 2 (.store [] 10 (.tmp 2) (.tmp 20)),
    .g (.keep [1, 2])]) (.seq (.reg 2 [.o 0 (.bsl (some 21) 0 1 2 [.a (.int .i64 0)] [(0, (.const (.int .i64 2))), (1, (.const (.int .i64 0)))]),
    .o 1 (.lt (some 22) (.build [.a (.int .i64 0), .a (.int .i64 0), .a (.slice none 0 0), .a (.int .i64 0), .a (.int .i64 0), .a (.int .i64 0), .a (.int .i64 0), .a (.slice none 0 0), .a (.slice none 0 0), .a (.slice none 0 0)] [(0, 1, (.const (.int .i64 4))), (5, 1, (.const (.int .i64 0))), (6, 1, (.const (.int .i64 1))), (8, 1, (.tmp 21))])),
    .o 2 (.alloc (some 3) 1 10 [.a (.int .i64 0), .a (.int .i64 0), .a (.slice none 0 0), .a (.int .i64 0), .a (.int .i64 0), .a (.int .i64 0), .a (.int .i64 0), .a (.slice none 0 0), .a (.slice none 0 0), .a (.slice none 0 0)]),
    .o 3 (.store [] 10 (.tmp 3) (.tmp 22)),
    .g (.keep [1, 2, 3])]) (.seq (.reg 2 [.o 0 (.lt (some 23) (.build [.a (.int .i64 0), .a (.int .i64 0)] [(0, 1, (.const (.int .i64 1))), (1, 1, (.const (.int .i64 0)))])),
    .o 1 (.lt (some 24) (.build [.a (.int .i64 0), .a (.int .i64 0)] [(0, 1, (.const (.int .i64 1))), (1, 1, (.const (.int .i64 1)))])),
    .o 2 (.bsl (some 25) 0 2 2 [.a (.int .i64 0), .a (.int .i64 0)] [(0, (.tmp 23)), (1, (.tmp 24))]),
    .o 3 (.lt (some 26) (.build [.a (.int .i64 0), .a (.int .i64 0), .a (.slice none 0 0), .a (.int .i64 0), .a (.int .i64 0), .a (.int .i64 0), .a (.int .i64 0), .a (.slice none 0 0), .a (.slice none 0 0), .a (.slice none 0 0)] [(0, 1, (.const (.int .i64 7))), (5, 1, (.const (.int .i64 0))), (3, 1, (.const (.int .i64 1))), (2, 1, (.tmp 25))])),
    .o 4 (.alloc (some 4) 1 10 [.a (.int .i64 0), .a (.int .i64 0), .a (.slice none 0 0), .a (.int .i64 0), .a (.int .i64 0), .a (.int .i64 0), .a (.int .i64 0), .a (.slice none 0 0), .a (.slice none 0 0), .a (.slice none 0 0)]),
    .o 5 (.store [] 10 (.tmp 4) (.tmp 26)),
    .g (.keep [1, 2, 3, 4])]) (.seq (.reg 5 [.o 0 (.lt (some 27) (.ld true 10 (.tmp 1))),
    .o 1 (.bsl (some 28) 0 1 2 [.a (.int .i64 0)] [(0, (.const (.int .i64 2))), (1, (.const (.int .i64 0)))]),
    .o 2 (.callb (some 29) (.func model_Holds.id) [(.tmp 27), (.tmp 28)]),
    .o 3 (.lt (some 30) (.mov (.tmp 29))),
    .gd 4 30 true (some 31) (.lt (some 31) (.ld true 10 (.tmp 1))),
    .gd 5 30 true (some 32) (.bsl (some 32) 1 1 2 [.a (.int .i64 0)] [(0, (.const (.int .i64 3))), (1, (.const (.int .i64 2)))]),
    .gd 6 30 true (some 33) (.callb (some 33) (.func model_Holds.id) [(.tmp 31), (.tmp 32)]),
    .o 7 (.lt (some 34) (.pick (.tmp 30) (.tmp 33) (.const (.bool false)))),
    .o 8 (.lt (some 35) (.mov (.tmp 34))),
    .gd 9 35 true (some 36) (.lt (some 36) (.ld true 10 (.tmp 2))),
    .gd 10 35 true (some 37) (.bsl (some 37) 2 1 2 [.a (.int .i64 0)] [(0, (.const (.int .i64 0))), (1, (.const (.int .i64 1)))]),
    .gd 11 35 true (some 38) (.callb (some 38) (.func model_Holds.id) [(.tmp 36), (.tmp 37)]),
    .o 12 (.lt (some 39) (.pick (.tmp 35) (.tmp 38) (.const (.bool false)))),
    .o 13 (.lt (some 40) (.mov (.tmp 39))),
    .gd 14 40 true (some 41) (.lt (some 41) (.ld true 10 (.tmp 3))),
    .gd 15 40 true (some 42) (.bsl (some 42) 3 1 2 [.a (.int .i64 0)] [(0, (.const (.int .i64 1))), (1, (.const (.int .i64 0)))]),
    .gd 16 40 true (some 43) (.callb (some 43) (.func model_Holds.id) [(.tmp 41), (.tmp 42)]),
    .o 17 (.lt (some 44) (.pick (.tmp 40) (.tmp 43) (.const (.bool false)))),
    .o 18 (.lt (some 45) (.mov (.tmp 44))),
    .gd 19 45 true (some 46) (.lt (some 46) (.ld true 10 (.tmp 4))),
    .gd 20 45 true (some 47) (.bsl (some 47) 4 1 2 [.a (.int .i64 0)] [(0, (.const (.int .i64 1))), (1, (.const (.int .i64 0)))]),
    .gd 21 45 true (some 48) (.callb (some 48) (.func model_Holds.id) [(.tmp 46), (.tmp 47)]),
    .o 22 (.lt (some 49) (.pick (.tmp 45) (.tmp 48) (.const (.bool false)))),
    .o 23 (.lt (some 5) (.mov (.tmp 49))),
    .g (.keep [1, 2, 3, 4, 5])]) (.seq (.reg 5 [.o 0 (.lt (some 50) (.ld true 10 (.tmp 1))),
    .o 1 (.bsl (some 51) 0 1 2 [.a (.int .i64 0)] [(0, (.const (.int .i64 3))), (1, (.const (.int .i64 1)))]),
    .o 2 (.callb (some 52) (.func model_Holds.id) [(.tmp 50), (.tmp 51)]),
    .o 3 (.lt (some 53) (.mov (.tmp 52))),
    .gd 4 53 false (some 54) (.lt (some 54) (.ld true 10 (.tmp 2))),
    .gd 5 53 false (some 55) (.bsl (some 55) 1 1 2 [.a (.int .i64 0)] [(0, (.const (.int .i64 1))), (1, (.const (.int .i64 0)))]),
    .gd 6 53 false (some 56) (.callb (some 56) (.func model_Holds.id) [(.tmp 54), (.tmp 55)]),
    .o 7 (.lt (some 57) (.pick (.tmp 53) (.const (.bool true)) (.tmp 56))),
    .o 8 (.lt (some 58) (.mov (.tmp 57))),
    .gd 9 58 false (some 59) (.lt (some 59) (.ld true 10 (.tmp 3))),
    .gd 10 58 false (some 60) (.bsl (some 60) 2 1 2 [.a (.int .i64 0)] [(0, (.const (.int .i64 2))), (1, (.const (.int .i64 2)))]),
    .gd 11 58 false (some 61) (.callb (some 61) (.func model_Holds.id) [(.tmp 59), (.tmp 60)]),
    .o 12 (.lt (some 62) (.pick (.tmp 58) (.const (.bool true)) (.tmp 61))),
    .o 13 (.lt (some 63) (.mov (.tmp 62))),
    .gd 14 63 false (some 64) (.lt (some 64) (.ld true 10 (.tmp 4))),
    .gd 15 63 false (some 65) (.bsl (some 65) 3 1 2 [.a (.int .i64 0)] [(0, (.const (.int .i64 0))), (1, (.const (.int .i64 1)))]),
    .gd 16 63 false (some 66) (.callb (some 66) (.func model_Holds.id) [(.tmp 64), (.tmp 65)]),
    .o 17 (.lt (some 67) (.pick (.tmp 63) (.const (.bool true)) (.tmp 66))),
    .o 18 (.lt (some 68) (.mov (.tmp 67))),
    .gd 19 68 false (some 69) (.lt (some 69) (.ld true 10 (.tmp 4))),
    .gd 20 68 false (some 70) (.bsl (some 70) 4 1 2 [.a (.int .i64 0)] [(0, (.const (.int .i64 2))), (1, (.const (.int .i64 2)))]),
    .gd 21 68 false (some 71) (.callb (some 71) (.func model_Holds.id) [(.tmp 69), (.tmp 70)]),
    .o 22 (.lt (some 72) (.pick (.tmp 68) (.const (.bool true)) (.tmp 71))),
    .o 23 (.lt (some 6) (.mov (.tmp 72))),
    .g (.keep [5, 6])]) (.seq (.reg 5 [.o 0 (.bsl (some 73) 0 1 2 [.a (.int .i64 0)] [(0, (.const (.int .i64 0))), (1, (.const (.int .i64 1)))]),
    .o 1 (.bsl (some 74) 1 1 2 [.a (.int .i64 0)] [(0, (.const (.int .i64 0))), (1, (.const (.int .i64 1)))]),
    .o 2 (.bsl (some 75) 2 1 2 [.a (.int .i64 0)] [(0, (.const (.int .i64 3))), (1, (.const (.int .i64 (-1))))]),
    .g (.frz 74),
    .g (.frz 75),
    .o 3 (.bsl (some 76) 3 1 2 [.a (.slice none 0 0)] [(0, (.tmp 74)), (1, (.tmp 75))]),
    .o 4 (.lt (some 77) (.build [.a (.int .i64 0), .a (.int .i64 0), .a (.slice none 0 0), .a (.int .i64 0), .a (.int .i64 0), .a (.int .i64 0), .a (.int .i64 0), .a (.slice none 0 0), .a (.slice none 0 0), .a (.slice none 0 0)] [(0, 1, (.const (.int .i64 8))), (7, 1, (.tmp 73)), (9, 1, (.tmp 76))])),
    .o 5 (.alloc (some 7) 4 10 [.a (.int .i64 0), .a (.int .i64 0), .a (.slice none 0 0), .a (.int .i64 0), .a (.int .i64 0), .a (.int .i64 0), .a (.int .i64 0), .a (.slice none 0 0), .a (.slice none 0 0), .a (.slice none 0 0)]),
    .o 6 (.store [] 10 (.tmp 7) (.tmp 77)),
    .g (.keep [5, 6, 7])]) (.seq (.reg 2 [.o 0 (.bsl (some 78) 0 1 3 [.a (.int .i64 0)] [(0, (.const (.int .i64 0))), (1, (.const (.int .i64 1))), (2, (.const (.int .i64 1)))]),
    .o 1 (.lt (some 79) (.build [.a (.int .i64 0), .a (.int .i64 0), .a (.slice none 0 0), .a (.int .i64 0), .a (.int .i64 0), .a (.int .i64 0), .a (.int .i64 0), .a (.slice none 0 0), .a (.slice none 0 0), .a (.slice none 0 0)] [(0, 1, (.const (.int .i64 9))), (1, 1, (.const (.int .i64 2))), (7, 1, (.tmp 78)), (4, 1, (.const (.int .i64 2))), (3, 1, (.const (.int .i64 2)))])),
    .o 2 (.alloc (some 8) 1 10 [.a (.int .i64 0), .a (.int .i64 0), .a (.slice none 0 0), .a (.int .i64 0), .a (.int .i64 0), .a (.int .i64 0), .a (.int .i64 0), .a (.slice none 0 0), .a (.slice none 0 0), .a (.slice none 0 0)]),
    .o 3 (.store [] 10 (.tmp 8) (.tmp 79)),
    .g (.keep [5, 6, 7, 8])]) (.seq (.seq (.reg 4 [.o 0 (.lt (some 80) (.ld true 10 (.tmp 7))),
    .o 1 (.bsl (some 81) 0 1 2 [.a (.int .i64 0)] [(0, (.const (.int .i64 3))), (1, (.const (.int .i64 (-1))))]),
    .o 2 (.callb (some 82) (.func model_Holds.id) [(.tmp 80), (.tmp 81)]),
    .o 3 (.lt (some 83) (.un .not (.tmp 82))),
    .o 4 (.lt (some 84) (.mov (.tmp 83))),
    .gd 5 84 false (some 85) (.lt (some 85) (.ld true 10 (.tmp 7))),
    .gd 6 84 false (some 86) (.bsl (some 86) 1 1 2 [.a (.int .i64 0)] [(0, (.const (.int .i64 0))), (1, (.const (.int .i64 (-1))))]),
    .gd 7 84 false (some 87) (.callb (some 87) (.func model_Holds.id) [(.tmp 85), (.tmp 86)]),
    .o 8 (.lt (some 88) (.pick (.tmp 84) (.const (.bool true)) (.tmp 87))),
    .o 9 (.lt (some 89) (.mov (.tmp 88))),
    .gd 10 89 false (some 90) (.lt (some 90) (.ld true 10 (.tmp 8))),
    .gd 11 89 false (some 91) (.bsl (some 91) 2 1 2 [.a (.int .i64 0)] [(0, (.const (.int .i64 0))), (1, (.const (.int .i64 2)))]),
    .gd 12 89 false (some 92) (.callb (some 92) (.func model_Holds.id) [(.tmp 90), (.tmp 91)]),
    .gd 13 89 false (some 93) (.lt (some 93) (.un .not (.tmp 92))),
    .o 14 (.lt (some 94) (.pick (.tmp 89) (.const (.bool true)) (.tmp 93))),
    .o 15 (.lt (some 95) (.mov (.tmp 94))),
    .gd 16 95 false (some 96) (.lt (some 96) (.ld true 10 (.tmp 8))),
    .gd 17 95 false (some 97) (.bsl (some 97) 3 1 2 [.a (.int .i64 0)] [(0, (.const (.int .i64 2))), (1, (.const (.int .i64 2)))]),
    .gd 18 95 false (some 98) (.callb (some 98) (.func model_Holds.id) [(.tmp 96), (.tmp 97)]),
    .o 19 (.lt (some 99) (.pick (.tmp 95) (.const (.bool true)) (.tmp 98))),
    .g (.keep [5, 6, 99])]) (.cond (.tmp 99) (.seq (.reg 0 [.o 0 (.lt (some 0) (.mov (.const (.bool false)))),
    .g (.keep [0])]) (.ret)) (.skip))) (.seq (.reg 1 [.o 0 (.callo (some 100) (.func hallmarklaw4_two.id) []),
    .o 1 (.alloc (some 9) 0 4 [.a (.slice none 0 0), .a (.slice none 0 0), .a (.bool false), .a (.slice none 0 0)]),
    .o 2 (.store [] 4 (.tmp 9) (.tmp 100)),
    .g (.keep [5, 6, 9])]) (.seq (.reg 0 [.o 0 (.lt (some 102) (.ld true 4 (.tmp 9))),
    .o 1 (.callb (some 103) (.func model_Check.id) [(.tmp 102)]),
    .o 2 (.lt (some 101) (.mov (.tmp 103))),
    .o 3 (.lt (some 104) (.ext (.tmp 101) 0)),
    .o 4 (.lt (some 105) (.ext (.tmp 101) 1)),
    .o 5 (.lt (some 10) (.mov (.tmp 104))),
    .o 6 (.lt (some 11) (.mov (.tmp 105))),
    .g (.keep [5, 6, 9, 10, 11])]) (.seq (.reg 0 [.o 0 (.lt (some 107) (.ld true 4 (.tmp 9))),
    .o 1 (.callb (some 108) (.func model_Product.id) [(.tmp 107), (.const (.int .i64 16))]),
    .o 2 (.lt (some 106) (.mov (.tmp 108))),
    .o 3 (.lt (some 109) (.ext (.tmp 106) 0)),
    .o 4 (.lt (some 110) (.ext (.tmp 106) 1)),
    .o 5 (.lt (some 12) (.mov (.tmp 109))),
    .o 6 (.lt (some 13) (.mov (.tmp 110))),
    .g (.keep [5, 6, 9, 10, 11, 12, 13])]) (.seq (.reg 0 [.o 0 (.lt (some 112) (.ld true 4 (.tmp 9))),
    .o 1 (.callb (some 113) (.func model_Product.id) [(.tmp 112), (.const (.int .i64 15))]),
    .o 2 (.lt (some 111) (.mov (.tmp 113))),
    .o 3 (.lt (some 114) (.ext (.tmp 111) 0)),
    .o 4 (.lt (some 115) (.ext (.tmp 111) 1)),
    .o 5 (.lt (some 14) (.mov (.tmp 114))),
    .o 6 (.lt (some 15) (.mov (.tmp 115))),
    .g (.keep [5, 6, 9, 10, 11, 12, 13, 15])]) (.seq (.seq (.reg 2 [.o 0 (.lt (some 116) (.mov (.tmp 5))),
    .o 1 (.lt (some 117) (.un .not (.tmp 116))),
    .o 2 (.lt (some 118) (.mov (.tmp 117))),
    .gd 3 118 false (some 119) (.lt (some 119) (.mov (.tmp 6))),
    .o 4 (.lt (some 120) (.pick (.tmp 118) (.const (.bool true)) (.tmp 119))),
    .o 5 (.lt (some 121) (.mov (.tmp 120))),
    .gd 6 121 false (some 122) (.lt (some 122) (.mov (.tmp 10))),
    .gd 7 121 false (some 123) (.lt (some 123) (.bin .neq (.tmp 122) (.const (.int .i64 0)))),
    .o 8 (.lt (some 124) (.pick (.tmp 121) (.const (.bool true)) (.tmp 123))),
    .o 9 (.lt (some 125) (.mov (.tmp 124))),
    .gd 10 125 false (some 126) (.lt (some 126) (.mov (.tmp 11))),
    .gd 11 125 false (some 127) (.lt (some 127) (.bin .neq (.tmp 126) (.const (.int .i64 0)))),
    .o 12 (.lt (some 128) (.pick (.tmp 125) (.const (.bool true)) (.tmp 127))),
    .o 13 (.lt (some 129) (.mov (.tmp 128))),
    .gd 14 129 false (some 130) (.lt (some 130) (.ld true 4 (.tmp 9))),
    .gd 15 129 false (some 131) (.callb (some 131) (.func model_Floor.id) [(.tmp 130)]),
    .gd 16 129 false (some 132) (.lt (some 132) (.bin .neq (.tmp 131) (.const (.int .i64 (-4))))),
    .o 17 (.lt (some 133) (.pick (.tmp 129) (.const (.bool true)) (.tmp 132))),
    .o 18 (.lt (some 134) (.mov (.tmp 133))),
    .gd 19 134 false (some 135) (.lt (some 135) (.ld true 4 (.tmp 9))),
    .gd 20 134 false (some 136) (.callb (some 136) (.func model_Ceil.id) [(.tmp 135)]),
    .gd 21 134 false (some 137) (.lt (some 137) (.bin .neq (.tmp 136) (.const (.int .i64 11)))),
    .o 22 (.lt (some 138) (.pick (.tmp 134) (.const (.bool true)) (.tmp 137))),
    .o 23 (.lt (some 139) (.mov (.tmp 138))),
    .gd 24 139 false (some 140) (.lt (some 140) (.mov (.tmp 12))),
    .gd 25 139 false (some 141) (.lt (some 141) (.bin .neq (.tmp 140) (.const (.int .i64 16)))),
    .o 26 (.lt (some 142) (.pick (.tmp 139) (.const (.bool true)) (.tmp 141))),
    .o 27 (.lt (some 143) (.mov (.tmp 142))),
    .gd 28 143 false (some 144) (.lt (some 144) (.mov (.tmp 13))),
    .gd 29 143 false (some 145) (.lt (some 145) (.un .not (.tmp 144))),
    .o 30 (.lt (some 146) (.pick (.tmp 143) (.const (.bool true)) (.tmp 145))),
    .o 31 (.lt (some 147) (.mov (.tmp 146))),
    .gd 32 147 false (some 148) (.lt (some 148) (.mov (.tmp 15))),
    .o 33 (.lt (some 149) (.pick (.tmp 147) (.const (.bool true)) (.tmp 148))),
    .o 34 (.lt (some 150) (.mov (.tmp 149))),
    .gd 35 150 false (some 151) (.lt (some 151) (.ld true 4 (.tmp 9))),
    .gd 36 150 false (some 152) (.bsl (some 152) 0 1 2 [.a (.int .i64 0)] [(0, (.const (.int .i64 1))), (1, (.const (.int .i64 2)))]),
    .gd 37 150 false (some 153) (.callb (some 153) (.func model_Worth.id) [(.tmp 151), (.tmp 152)]),
    .gd 38 150 false (some 154) (.lt (some 154) (.bin .neq (.tmp 153) (.const (.int .i64 (-1))))),
    .o 39 (.lt (some 155) (.pick (.tmp 150) (.const (.bool true)) (.tmp 154))),
    .o 40 (.lt (some 156) (.mov (.tmp 155))),
    .gd 41 156 false (some 157) (.lt (some 157) (.ld true 4 (.tmp 9))),
    .gd 42 156 false (some 158) (.bsl (some 158) 1 1 2 [.a (.int .i64 0)] [(0, (.const (.int .i64 1))), (1, (.const (.int .i64 2)))]),
    .gd 43 156 false (some 159) (.callb (some 159) (.func model_Solution.id) [(.tmp 157), (.tmp 158)]),
    .gd 44 156 false (some 160) (.lt (some 160) (.un .not (.tmp 159))),
    .o 45 (.lt (some 161) (.pick (.tmp 156) (.const (.bool true)) (.tmp 160))),
    .g (.keep [9, 161])]) (.cond (.tmp 161) (.seq (.reg 0 [.o 0 (.lt (some 0) (.mov (.const (.bool false)))),
    .g (.keep [0])]) (.ret)) (.skip))) (.seq (.reg 0 [.o 0 (.lt (some 162) (.fad (.tmp 9) 0)),
    .o 1 (.lt (some 163) (.ld false 1 (.tmp 162))),
    .o 2 (.lt (some 164) (.ixS 3 (.tmp 163) (.const (.int .i64 0)))),
    .o 3 (.lt (some 165) (.fad (.tmp 164) 0)),
    .o 4 (.store [] 1 (.tmp 165) (.const (.string { data := #[57, 97] }))),
    .g (.keep [9])]) (.seq (.reg 0 [.o 0 (.lt (some 167) (.ld true 4 (.tmp 9))),
    .o 1 (.callb (some 168) (.func model_Check.id) [(.tmp 167)]),
    .o 2 (.lt (some 166) (.mov (.tmp 168))),
    .o 3 (.lt (some 169) (.ext (.tmp 166) 0)),
    .o 4 (.lt (some 170) (.ext (.tmp 166) 1)),
    .o 5 (.lt (some 11) (.mov (.tmp 170))),
    .g (.keep [11])]) (.seq (.reg 0 [.o 0 (.lt (some 171) (.mov (.tmp 11))),
    .o 1 (.lt (some 172) (.bin .eql (.tmp 171) (.const (.int .i64 41)))),
    .o 2 (.lt (some 0) (.mov (.tmp 172))),
    .g (.keep [0])]) (.ret))))))))))))))))))
def hallmarklaw4_known.rs : List Rs := [.sl 0]
theorem hallmarklaw4_known.ok : isFn Try.prog hallmarklaw4_known.id 173 hallmarklaw4_known.ann hallmarklaw4_known.ir hallmarklaw4_known.rs := ⟨Try.f7, _, Try.func7, rfl, rfl, by kernel_rfl, by kernel_rfl⟩
-- hallmark/hallmarklaw4.right
def hallmarklaw4_right.ann : List (Nat × RA) := [(0, { gs := [], keep := some [1] }), (1, { gs := [], keep := some [4] }), (2, { gs := [], keep := some [2] })]
def hallmarklaw4_right.ir : C := .seq (.reg 1 [.o 0 (.box (some 1) 0 4 (.tmp 0)),
    .o 1 (.lt (some 2) (.mov (.const (.bool false)))),
    .g (.keep [1])]) (.seq (.reg 0 [.o 0 (.lt (some 6) (.ld true 4 (.tmp 1))),
    .o 1 (.call (some 7) model_Check.id [(.tmp 6)]),
    .o 2 (.lt (some 5) (.mov (.tmp 7))),
    .o 3 (.lt (some 8) (.ext (.tmp 5) 0)),
    .o 4 (.lt (some 9) (.ext (.tmp 5) 1)),
    .o 5 (.lt (some 3) (.mov (.tmp 8))),
    .o 6 (.lt (some 4) (.mov (.tmp 9))),
    .g (.keep [4])]) (.seq (.reg 0 [.o 0 (.lt (some 10) (.mov (.tmp 4))),
    .o 1 (.lt (some 11) (.bin .eql (.tmp 10) (.const (.int .i64 0)))),
    .o 2 (.lt (some 2) (.mov (.tmp 11))),
    .g (.keep [2])]) (.ret)))
def hallmarklaw4_right.rs : List Rs := [.sl 2]
theorem hallmarklaw4_right.ok : isFn Try.prog hallmarklaw4_right.id 12 hallmarklaw4_right.ann hallmarklaw4_right.ir hallmarklaw4_right.rs := ⟨Try.f8, _, Try.func8, rfl, rfl, by kernel_rfl, by kernel_rfl⟩
-- hallmark/model.Worth
def model_Worth.ann : List (Nat × RA) := [(0, { gs := [], keep := some [2, 3] }), (1, { gs := [], keep := some [2, 3, 20] }), (2, { gs := [], keep := some [4] }), (3, { gs := [], keep := some [4], aps := [(3, [1000001])] })]
def model_Worth.ir : C := .seq (.reg 2 [.o 0 (.box (some 2) 0 4 (.tmp 0)),
    .o 1 (.box (some 3) 1 1 (.tmp 1)),
    .o 2 (.lt (some 4) (.mov (.const (.int .i64 0)))),
    .g (.keep [2, 3])]) (.seq (.seq (.reg 0 [.o 0 (.lt (some 5) (.ld true 4 (.tmp 2))),
    .o 1 (.call (some 6) model_right.id [(.tmp 5)]),
    .o 2 (.lt (some 7) (.un .not (.tmp 6))),
    .o 3 (.lt (some 8) (.mov (.tmp 7))),
    .gd 4 8 false (some 9) (.lt (some 9) (.ld false 1 (.tmp 3))),
    .gd 5 8 false (some 10) (.lt (some 10) (.lenSl (.tmp 9))),
    .gd 6 8 false (some 11) (.lt (some 11) (.fad (.tmp 2) 0)),
    .gd 7 8 false (some 12) (.lt (some 12) (.ld false 1 (.tmp 11))),
    .gd 8 8 false (some 13) (.lt (some 13) (.lenSl (.tmp 12))),
    .gd 9 8 false (some 14) (.lt (some 14) (.bin .neq (.tmp 10) (.tmp 13))),
    .o 10 (.lt (some 15) (.pick (.tmp 8) (.const (.bool true)) (.tmp 14))),
    .o 11 (.lt (some 16) (.mov (.tmp 15))),
    .gd 12 16 false (some 17) (.lt (some 17) (.ld false 1 (.tmp 3))),
    .gd 13 16 false (some 18) (.call (some 18) model_sized.id [(.tmp 17)]),
    .gd 14 16 false (some 19) (.lt (some 19) (.un .not (.tmp 18))),
    .o 15 (.lt (some 20) (.pick (.tmp 16) (.const (.bool true)) (.tmp 19))),
    .g (.keep [2, 3, 20])]) (.cond (.tmp 20) (.seq (.reg 0 [.o 0 (.lt (some 4) (.mov (.const (.int .i64 0)))),
    .g (.keep [4])]) (.ret)) (.skip))) (.seq (.reg 0 [.o 0 (.lt (some 21) (.fad (.tmp 2) 3)),
    .o 1 (.lt (some 22) (.ld false 1 (.tmp 21))),
    .o 2 (.lt (some 23) (.mkfn (.func model_Worth_1.id) [] [(.tmp 3)])),
    .o 3 (.callb (some 24) (.func model_sum.id) [(.tmp 22), (.tmp 23)]),
    .o 4 (.lt (some 4) (.mov (.tmp 24))),
    .g (.keep [4])]) (.ret)))
def model_Worth.rs : List Rs := [.sl 4]
theorem model_Worth.ok : isFn Try.prog model_Worth.id 25 model_Worth.ann model_Worth.ir model_Worth.rs := ⟨Try.f9, _, Try.func9, rfl, rfl, by kernel_rfl, by kernel_rfl⟩
-- hallmark/hallmarklaw4.inside
def hallmarklaw4_inside.ann : List (Nat × RA) := [(0, { gs := [], keep := some [1, 2] }), (1, { gs := [], keep := some [1, 2, 5] }), (2, { gs := [], keep := some [1, 2, 5, 6] }), (3, { gs := [], keep := some [1, 2, 5, 6, 12] }), (4, { gs := [], keep := some [1, 2, 5, 6] }), (5, { gs := [], keep := some [1, 2, 5, 6, 7] }), (6, { gs := [], keep := some [1, 2, 5, 6, 7, 24] }), (7, { gs := [], keep := some [1, 2, 5, 6, 7], ord := [0, 1, 2, 3, 4, 5, 6, 7, 8, 9, 10, 11, 12, 13, 14, 15, 16] }), (8, { gs := [], keep := some [1, 2, 5, 6] }), (9, { gs := [(0, [.nilv 5 1])], keep := some [4] })]
def hallmarklaw4_inside.b0 : C := .seq (.seq (.reg 0 [.o 0 (.lt (some 8) (.mov (.tmp 6))),
    .o 1 (.lt (some 9) (.fad (.tmp 2) 0)),
    .o 2 (.lt (some 10) (.ld false 1 (.tmp 9))),
    .o 3 (.lt (some 11) (.lenSl (.tmp 10))),
    .o 4 (.lt (some 12) (.bin .lss (.tmp 8) (.tmp 11))),
    .g (.keep [1, 2, 5, 6, 12])]) (.cond (.tmp 12) (.skip) (.exit 0))) (.seq (.block 1 (.seq (.reg 0 [.o 0 (.lt (some 15) (.fad (.tmp 2) 0)),
    .o 1 (.lt (some 16) (.ld false 1 (.tmp 15))),
    .o 2 (.lt (some 17) (.mov (.tmp 6))),
    .o 3 (.lt (some 18) (.ixS 3 (.tmp 16) (.tmp 17))),
    .o 4 (.lt (some 19) (.fad (.tmp 18) 1)),
    .o 5 (.lt (some 20) (.ld false 1 (.tmp 19))),
    .o 6 (.lt (some 7) (.mov (.tmp 20))),
    .g (.keep [1, 2, 5, 6, 7])]) (.seq (.seq (.reg 0 [.o 0 (.lt (some 21) (.mov (.tmp 6))),
    .o 1 (.lt (some 22) (.mov (.tmp 1))),
    .o 2 (.lt (some 23) (.lenSl (.tmp 22))),
    .o 3 (.lt (some 24) (.bin .lss (.tmp 21) (.tmp 23))),
    .g (.keep [1, 2, 5, 6, 7, 24])]) (.cond (.tmp 24) (.reg 0 [.o 0 (.lt (some 25) (.mov (.tmp 7))),
    .o 1 (.lt (some 26) (.mov (.tmp 1))),
    .o 2 (.lt (some 27) (.mov (.tmp 6))),
    .o 3 (.lt (some 28) (.ixS 1 (.tmp 26) (.tmp 27))),
    .o 4 (.lt (some 29) (.ld false 1 (.tmp 28))),
    .o 5 (.lt (some 30) (.fad (.tmp 2) 0)),
    .o 6 (.lt (some 31) (.ld false 1 (.tmp 30))),
    .o 7 (.lt (some 32) (.mov (.tmp 6))),
    .o 8 (.lt (some 33) (.ixS 3 (.tmp 31) (.tmp 32))),
    .o 9 (.lt (some 34) (.fad (.tmp 33) 2)),
    .o 10 (.lt (some 35) (.ld false 1 (.tmp 34))),
    .o 11 (.lt (some 36) (.mov (.tmp 7))),
    .o 12 (.lt (some 37) (.bin .sub (.tmp 35) (.tmp 36))),
    .o 13 (.lt (some 38) (.bin .add (.tmp 37) (.const (.int .i64 1)))),
    .o 14 (.call (some 39) hallmarklaw4_place.id [(.tmp 29), (.tmp 38)]),
    .o 15 (.lt (some 40) (.bin .add (.tmp 25) (.tmp 39))),
    .o 16 (.lt (some 7) (.mov (.tmp 40))),
    .g (.keep [1, 2, 5, 6, 7])]) (.skip))) (.reg 2 [.o 0 (.lt (some 41) (.mov (.tmp 5))),
    .o 1 (.lt (some 42) (.mov (.tmp 7))),
    .o 2 (.bsl (some 43) 0 1 1 [.a (.int .i64 0)] [(0, (.tmp 42))]),
    .o 3 (.app [] (some 44) 1 1 8 (.tmp 41) (.tmp 43)),
    .o 4 (.lt (some 5) (.mov (.tmp 44))),
    .g (.keep [1, 2, 5, 6])])))) (.reg 0 [.o 0 (.lt (some 13) (.mov (.tmp 6))),
    .o 1 (.lt (some 14) (.bin .add (.tmp 13) (.const (.int .i64 1)))),
    .o 2 (.lt (some 6) (.mov (.tmp 14))),
    .g (.keep [1, 2, 5, 6])]))
def hallmarklaw4_inside.ir : C := .seq (.reg 1 [.o 0 (.box (some 2) 0 4 (.tmp 0)),
    .o 1 (.lt (some 4) (.mov (.const (.slice none 0 0)))),
    .g (.keep [1, 2])]) (.seq (.reg 0 [.o 0 (.lt (some 5) (.mov (.const (.slice none 0 0)))),
    .g (.keep [1, 2, 5])]) (.seq (.seq (.reg 0 [.o 0 (.lt (some 6) (.mov (.const (.int .i64 0)))),
    .g (.keep [1, 2, 5, 6])]) (.block 0 (.loop hallmarklaw4_inside.b0))) (.seq (.reg 0 [.g (.nilv 5 1),
    .o 0 (.lt (some 45) (.mov (.tmp 5))),
    .o 1 (.lt (some 4) (.mov (.tmp 45))),
    .g (.keep [4])]) (.ret))))
def hallmarklaw4_inside.rs : List Rs := [.sl 4]
theorem hallmarklaw4_inside.ok : isFn Try.prog hallmarklaw4_inside.id 46 hallmarklaw4_inside.ann hallmarklaw4_inside.ir hallmarklaw4_inside.rs := ⟨Try.f10, _, Try.func10, rfl, rfl, by kernel_rfl, by kernel_rfl⟩
-- hallmark/model.Floor
def model_Floor.ann : List (Nat × RA) := [(0, { gs := [], keep := some [1] }), (1, { gs := [], keep := some [2] })]
def model_Floor.ir : C := .seq (.reg 1 [.o 0 (.box (some 1) 0 4 (.tmp 0)),
    .o 1 (.lt (some 2) (.mov (.const (.int .i64 0)))),
    .g (.keep [1])]) (.seq (.reg 0 [.o 0 (.lt (some 3) (.ld true 4 (.tmp 1))),
    .o 1 (.call (some 4) model_ends.id [(.tmp 3), (.const (.bool true))]),
    .o 2 (.lt (some 2) (.mov (.tmp 4))),
    .g (.keep [2])]) (.ret))
def model_Floor.rs : List Rs := [.sl 2]
theorem model_Floor.ok : isFn Try.prog model_Floor.id 5 model_Floor.ann model_Floor.ir model_Floor.rs := ⟨Try.f11, _, Try.func11, rfl, rfl, by kernel_rfl, by kernel_rfl⟩
-- hallmark/model.Ceil
def model_Ceil.ann : List (Nat × RA) := [(0, { gs := [], keep := some [1] }), (1, { gs := [], keep := some [2] })]
def model_Ceil.ir : C := .seq (.reg 1 [.o 0 (.box (some 1) 0 4 (.tmp 0)),
    .o 1 (.lt (some 2) (.mov (.const (.int .i64 0)))),
    .g (.keep [1])]) (.seq (.reg 0 [.o 0 (.lt (some 3) (.ld true 4 (.tmp 1))),
    .o 1 (.call (some 4) model_ends.id [(.tmp 3), (.const (.bool false))]),
    .o 2 (.lt (some 2) (.mov (.tmp 4))),
    .g (.keep [2])]) (.ret))
def model_Ceil.rs : List Rs := [.sl 2]
theorem model_Ceil.ok : isFn Try.prog model_Ceil.id 5 model_Ceil.ann model_Ceil.ir model_Ceil.rs := ⟨Try.f12, _, Try.func12, rfl, rfl, by kernel_rfl, by kernel_rfl⟩
-- hallmark/model.Holds
def model_Holds.ann : List (Nat × RA) := [(0, { gs := [], keep := some [2, 3] }), (1, { gs := [], keep := some [2, 3, 14] }), (2, { gs := [], keep := some [4] }), (3, { gs := [], keep := some [4], ord := [1, 2, 5, 6, 0, 3, 4, 7, 8], aps := [(7, [1000001])] })]
def model_Holds.ir : C := .seq (.reg 2 [.o 0 (.box (some 2) 0 10 (.tmp 0)),
    .o 1 (.box (some 3) 1 1 (.tmp 1)),
    .o 2 (.lt (some 4) (.mov (.const (.bool false)))),
    .g (.keep [2, 3])]) (.seq (.seq (.reg 0 [.o 0 (.lt (some 5) (.ld true 10 (.tmp 2))),
    .o 1 (.lt (some 6) (.ld false 1 (.tmp 3))),
    .o 2 (.lt (some 7) (.lenSl (.tmp 6))),
    .o 3 (.call (some 8) model_con.id [(.tmp 5), (.tmp 7)]),
    .o 4 (.lt (some 9) (.bin .neq (.tmp 8) (.const (.int .i64 0)))),
    .o 5 (.lt (some 10) (.mov (.tmp 9))),
    .gd 6 10 false (some 11) (.lt (some 11) (.ld false 1 (.tmp 3))),
    .gd 7 10 false (some 12) (.call (some 12) model_sized.id [(.tmp 11)]),
    .gd 8 10 false (some 13) (.lt (some 13) (.un .not (.tmp 12))),
    .o 9 (.lt (some 14) (.pick (.tmp 10) (.const (.bool true)) (.tmp 13))),
    .g (.keep [2, 3, 14])]) (.cond (.tmp 14) (.seq (.reg 0 [.o 0 (.lt (some 4) (.mov (.const (.bool false)))),
    .g (.keep [4])]) (.ret)) (.skip))) (.seq (.reg 0 [.o 1 (.lt (some 16) (.fad (.tmp 2) 0)),
    .o 2 (.lt (some 17) (.ld false 1 (.tmp 16))),
    .o 5 (.lt (some 20) (.ld true 10 (.tmp 2))),
    .o 6 (.lt (some 21) (.mkfn (.func model_Holds_1.id) [] [(.tmp 3)])),
    .o 0 (.call (some 15) model_kinds.id []),
    .o 3 (.lt (some 18) (.lkp false .i64 (.agg [.a (.bool false), .a (.bool false), .a (.bool false), .a (.bool false), .a (.bool false), .a (.bool false), .a (.bool false), .a (.bool false), .a (.bool false), .a (.nilFunc)]) (.tmp 15) (.tmp 17))),
    .o 4 (.lt (some 19) (.fld false 1 9 (.tmp 18))),
    .o 7 (.callb (some 22) (.tmp 19) [(.tmp 20), (.tmp 21)]),
    .o 8 (.lt (some 4) (.mov (.tmp 22))),
    .g (.keep [4])]) (.ret)))
def model_Holds.rs : List Rs := [.sl 4]
theorem model_Holds.ok : isFn Try.prog model_Holds.id 23 model_Holds.ann model_Holds.ir model_Holds.rs := ⟨Try.f13, _, Try.func13, rfl, rfl, by kernel_rfl, by kernel_rfl⟩
-- hallmark/hallmarklaw4.names
def hallmarklaw4_names.ann : List (Nat × RA) := [(0, { gs := [], keep := some [1, 2] }), (1, { gs := [], keep := some [1, 2, 5] }), (2, { gs := [], keep := some [1, 2, 5, 6] }), (3, { gs := [], keep := some [1, 2, 5, 6, 22] }), (4, { gs := [], keep := some [1, 2, 5, 6] }), (5, { gs := [], keep := some [1, 2, 5, 6] }), (6, { gs := [], keep := some [1, 2, 5, 7] }), (7, { gs := [], keep := some [1, 2, 5, 7, 40] }), (8, { gs := [], keep := some [1, 2, 5, 7] }), (9, { gs := [], keep := some [1, 2, 5, 7] }), (10, { gs := [], keep := some [4] })]
def hallmarklaw4_names.b1 : C := .seq (.seq (.reg 0 [.o 0 (.lt (some 36) (.mov (.tmp 7))),
    .o 1 (.lt (some 37) (.fad (.tmp 2) 7)),
    .o 2 (.lt (some 38) (.ld false 1 (.tmp 37))),
    .o 3 (.lt (some 39) (.lenSl (.tmp 38))),
    .o 4 (.lt (some 40) (.bin .lss (.tmp 36) (.tmp 39))),
    .g (.keep [1, 2, 5, 7, 40])]) (.cond (.tmp 40) (.skip) (.exit 2))) (.seq (.block 3 (.reg 0 [.o 0 (.lt (some 43) (.mov (.tmp 5))),
    .o 1 (.lt (some 44) (.mov (.tmp 43))),
    .gd 2 44 false (some 45) (.lt (some 45) (.fad (.tmp 2) 7)),
    .gd 3 44 false (some 46) (.lt (some 46) (.ld false 1 (.tmp 45))),
    .gd 4 44 false (some 47) (.lt (some 47) (.mov (.tmp 7))),
    .gd 5 44 false (some 48) (.lt (some 48) (.ixS 1 (.tmp 46) (.tmp 47))),
    .gd 6 44 false (some 49) (.lt (some 49) (.ld false 1 (.tmp 48))),
    .gd 7 44 false (some 50) (.lt (some 50) (.mov (.tmp 1))),
    .gd 8 44 false (some 51) (.lt (some 51) (.bin .eql (.tmp 49) (.tmp 50))),
    .o 9 (.lt (some 52) (.pick (.tmp 44) (.const (.bool true)) (.tmp 51))),
    .o 10 (.lt (some 5) (.mov (.tmp 52))),
    .g (.keep [1, 2, 5, 7])])) (.reg 0 [.o 0 (.lt (some 41) (.mov (.tmp 7))),
    .o 1 (.lt (some 42) (.bin .add (.tmp 41) (.const (.int .i64 1)))),
    .o 2 (.lt (some 7) (.mov (.tmp 42))),
    .g (.keep [1, 2, 5, 7])]))
def hallmarklaw4_names.b0 : C := .seq (.seq (.reg 0 [.o 0 (.lt (some 18) (.mov (.tmp 6))),
    .o 1 (.lt (some 19) (.fad (.tmp 2) 2)),
    .o 2 (.lt (some 20) (.ld false 1 (.tmp 19))),
    .o 3 (.lt (some 21) (.lenSl (.tmp 20))),
    .o 4 (.lt (some 22) (.bin .lss (.tmp 18) (.tmp 21))),
    .g (.keep [1, 2, 5, 6, 22])]) (.cond (.tmp 22) (.skip) (.exit 0))) (.seq (.block 1 (.reg 0 [.o 0 (.lt (some 25) (.mov (.tmp 5))),
    .o 1 (.lt (some 26) (.mov (.tmp 25))),
    .gd 2 26 false (some 27) (.lt (some 27) (.fad (.tmp 2) 2)),
    .gd 3 26 false (some 28) (.lt (some 28) (.ld false 1 (.tmp 27))),
    .gd 4 26 false (some 29) (.lt (some 29) (.mov (.tmp 6))),
    .gd 5 26 false (some 30) (.lt (some 30) (.ixS 2 (.tmp 28) (.tmp 29))),
    .gd 6 26 false (some 31) (.lt (some 31) (.fad (.tmp 30) 1)),
    .gd 7 26 false (some 32) (.lt (some 32) (.ld false 1 (.tmp 31))),
    .gd 8 26 false (some 33) (.lt (some 33) (.mov (.tmp 1))),
    .gd 9 26 false (some 34) (.lt (some 34) (.bin .eql (.tmp 32) (.tmp 33))),
    .o 10 (.lt (some 35) (.pick (.tmp 26) (.const (.bool true)) (.tmp 34))),
    .o 11 (.lt (some 5) (.mov (.tmp 35))),
    .g (.keep [1, 2, 5, 6])])) (.reg 0 [.o 0 (.lt (some 23) (.mov (.tmp 6))),
    .o 1 (.lt (some 24) (.bin .add (.tmp 23) (.const (.int .i64 1)))),
    .o 2 (.lt (some 6) (.mov (.tmp 24))),
    .g (.keep [1, 2, 5, 6])]))
def hallmarklaw4_names.ir : C := .seq (.reg 1 [.o 0 (.box (some 2) 0 10 (.tmp 0)),
    .o 1 (.lt (some 4) (.mov (.const (.bool false)))),
    .g (.keep [1, 2])]) (.seq (.reg 0 [.o 0 (.lt (some 8) (.fad (.tmp 2) 5)),
    .o 1 (.lt (some 9) (.ld false 1 (.tmp 8))),
    .o 2 (.lt (some 10) (.mov (.tmp 1))),
    .o 3 (.lt (some 11) (.bin .eql (.tmp 9) (.tmp 10))),
    .o 4 (.lt (some 12) (.mov (.tmp 11))),
    .gd 5 12 false (some 13) (.lt (some 13) (.fad (.tmp 2) 6)),
    .gd 6 12 false (some 14) (.lt (some 14) (.ld false 1 (.tmp 13))),
    .gd 7 12 false (some 15) (.lt (some 15) (.mov (.tmp 1))),
    .gd 8 12 false (some 16) (.lt (some 16) (.bin .eql (.tmp 14) (.tmp 15))),
    .o 9 (.lt (some 17) (.pick (.tmp 12) (.const (.bool true)) (.tmp 16))),
    .o 10 (.lt (some 5) (.mov (.tmp 17))),
    .g (.keep [1, 2, 5])]) (.seq (.seq (.reg 0 [.o 0 (.lt (some 6) (.mov (.const (.int .i64 0)))),
    .g (.keep [1, 2, 5, 6])]) (.block 0 (.loop hallmarklaw4_names.b0))) (.seq (.seq (.reg 0 [.o 0 (.lt (some 7) (.mov (.const (.int .i64 0)))),
    .g (.keep [1, 2, 5, 7])]) (.block 2 (.loop hallmarklaw4_names.b1))) (.seq (.reg 0 [.o 0 (.lt (some 53) (.mov (.tmp 5))),
    .o 1 (.lt (some 4) (.mov (.tmp 53))),
    .g (.keep [4])]) (.ret)))))
def hallmarklaw4_names.rs : List Rs := [.sl 4]
theorem hallmarklaw4_names.ok : isFn Try.prog hallmarklaw4_names.id 54 hallmarklaw4_names.ann hallmarklaw4_names.ir hallmarklaw4_names.rs := ⟨Try.f14, _, Try.func14, rfl, rfl, by kernel_rfl, by kernel_rfl⟩
-- hallmark/hallmarklaw4.tables
def hallmarklaw4_tables.ann : List (Nat × RA) := [(0, { gs := [], keep := some [1, 2] }), (1, { gs := [], keep := some [1, 2, 5], aps := [(2, [1000001])] }), (2, { gs := [], keep := some [1, 2, 5, 6] }), (3, { gs := [], keep := some [1, 2, 5, 6, 7, 8, 9], ord := [0, 1, 2, 3, 4, 5, 6, 7, 8], aps := [(6, [2]), (7, [2])] }), (4, { gs := [], keep := some [1, 2, 5, 6, 7, 8, 9] }), (5, { gs := [], keep := some [1, 2, 5, 6, 7, 8, 9, 10] }), (6, { gs := [], keep := some [1, 2, 5, 6, 7, 8, 9, 10, 26] }), (7, { gs := [], keep := some [1, 2, 5, 6, 7, 8, 9, 10] }), (8, { gs := [], keep := some [1, 2, 5, 6, 7, 8, 9, 10], ord := [0, 1, 2, 3, 4, 5, 6, 7, 8, 9, 10], aps := [(7, [1000004])] }), (9, { gs := [], keep := some [1, 2, 5, 6, 7, 8, 9], ord := [0, 1, 2, 3, 5, 6, 7, 8, 9, 10, 11, 4, 12, 13, 14], aps := [(4, [2, 44, 45, 48]), (11, [1000004])] }), (10, { gs := [], keep := some [1, 2, 5, 6, 7, 8, 9], ord := [0, 1, 2, 3, 4, 5, 6, 7, 8, 9] }), (11, { gs := [], keep := some [1, 2, 5, 6, 8, 9, 79], aps := [(2, [1000001]), (14, [1000001])] }), (12, { gs := [], keep := some [4] }), (13, { gs := [], keep := some [1, 5, 6, 8, 9, 84], aps := [(3, [1000001])] }), (14, { gs := [], keep := some [4] }), (15, { gs := [], keep := some [4], aps := [(5, [1000001]), (13, [1000001])] })]
def hallmarklaw4_tables.b0 : C := .seq (.seq (.reg 0 [.o 0 (.lt (some 25) (.mov (.tmp 10))),
    .o 1 (.lt (some 26) (.bin .geq (.tmp 25) (.const (.int .i64 0)))),
    .g (.keep [1, 2, 5, 6, 7, 8, 9, 10, 26])]) (.cond (.tmp 26) (.skip) (.exit 0))) (.seq (.block 1 (.reg 2 [.o 0 (.lt (some 29) (.fad (.tmp 7) 9)),
    .o 1 (.lt (some 30) (.ld false 1 (.tmp 29))),
    .o 2 (.lt (some 31) (.fad (.tmp 2) 9)),
    .o 3 (.lt (some 32) (.ld false 1 (.tmp 31))),
    .o 4 (.lt (some 33) (.mov (.tmp 10))),
    .o 5 (.lt (some 34) (.ixS 1 (.tmp 32) (.tmp 33))),
    .o 6 (.lt (some 35) (.ld false 1 (.tmp 34))),
    .o 7 (.bsv (some 36) 1 1 [.a (.slice none 0 0)] [(0, (.tmp 35))]),
    .o 8 (.app [] (some 37) 1 1 24 (.tmp 30) (.tmp 36)),
    .o 9 (.lt (some 38) (.fad (.tmp 7) 9)),
    .o 10 (.store [] 1 (.tmp 38) (.tmp 37)),
    .g (.keep [1, 2, 5, 6, 7, 8, 9, 10])])) (.reg 0 [.o 0 (.lt (some 27) (.mov (.tmp 10))),
    .o 1 (.lt (some 28) (.bin .sub (.tmp 27) (.const (.int .i64 1)))),
    .o 2 (.lt (some 10) (.mov (.tmp 28))),
    .g (.keep [1, 2, 5, 6, 7, 8, 9, 10])]))
def hallmarklaw4_tables.ir : C := .seq (.reg 1 [.o 0 (.box (some 2) 0 10 (.tmp 0)),
    .o 1 (.lt (some 4) (.mov (.const (.bool false)))),
    .g (.keep [1, 2])]) (.seq (.reg 0 [.o 0 (.lt (some 11) (.ld true 10 (.tmp 2))),
    .o 1 (.lt (some 12) (.mov (.tmp 1))),
    .o 2 (.callb (some 13) (.func model_Holds.id) [(.tmp 11), (.tmp 12)]),
    .o 3 (.lt (some 5) (.mov (.tmp 13))),
    .g (.keep [1, 2, 5])]) (.seq (.reg 0 [.o 0 (.lt (some 14) (.fad (.tmp 2) 9)),
    .o 1 (.lt (some 15) (.ld false 1 (.tmp 14))),
    .o 2 (.lt (some 16) (.lenSl (.tmp 15))),
    .o 3 (.lt (some 6) (.mov (.tmp 16))),
    .g (.keep [1, 2, 5, 6])]) (.seq (.reg 3 [.o 0 (.lt (some 17) (.ld true 10 (.tmp 2))),
    .o 1 (.lt (some 18) (.ld true 10 (.tmp 2))),
    .o 2 (.lt (some 19) (.ld true 10 (.tmp 2))),
    .o 3 (.alloc (some 7) 0 10 [.a (.int .i64 0), .a (.int .i64 0), .a (.slice none 0 0), .a (.int .i64 0), .a (.int .i64 0), .a (.int .i64 0), .a (.int .i64 0), .a (.slice none 0 0), .a (.slice none 0 0), .a (.slice none 0 0)]),
    .o 4 (.alloc (some 8) 1 10 [.a (.int .i64 0), .a (.int .i64 0), .a (.slice none 0 0), .a (.int .i64 0), .a (.int .i64 0), .a (.int .i64 0), .a (.int .i64 0), .a (.slice none 0 0), .a (.slice none 0 0), .a (.slice none 0 0)]),
    .o 5 (.alloc (some 9) 2 10 [.a (.int .i64 0), .a (.int .i64 0), .a (.slice none 0 0), .a (.int .i64 0), .a (.int .i64 0), .a (.int .i64 0), .a (.int .i64 0), .a (.slice none 0 0), .a (.slice none 0 0), .a (.slice none 0 0)]),
    .o 6 (.store [2] 10 (.tmp 7) (.tmp 17)),
    .o 7 (.store [2] 10 (.tmp 8) (.tmp 18)),
    .o 8 (.store [] 10 (.tmp 9) (.tmp 19)),
    .g (.keep [1, 2, 5, 6, 7, 8, 9])]) (.seq (.reg 0 [.o 0 (.lt (some 20) (.fad (.tmp 7) 9)),
    .o 1 (.store [] 1 (.tmp 20) (.const (.slice none 0 0))),
    .o 2 (.lt (some 21) (.fad (.tmp 8) 9)),
    .o 3 (.store [] 1 (.tmp 21) (.const (.slice none 0 0))),
    .o 4 (.lt (some 22) (.fad (.tmp 9) 9)),
    .o 5 (.store [] 1 (.tmp 22) (.const (.slice none 0 0))),
    .g (.keep [1, 2, 5, 6, 7, 8, 9])]) (.seq (.seq (.reg 0 [.o 0 (.lt (some 23) (.mov (.tmp 6))),
    .o 1 (.lt (some 24) (.bin .sub (.tmp 23) (.const (.int .i64 1)))),
    .o 2 (.lt (some 10) (.mov (.tmp 24))),
    .g (.keep [1, 2, 5, 6, 7, 8, 9, 10])]) (.block 0 (.loop hallmarklaw4_tables.b0))) (.seq (.reg 3 [.o 0 (.lt (some 39) (.fad (.tmp 8) 9)),
    .o 1 (.lt (some 40) (.ld false 1 (.tmp 39))),
    .o 2 (.lt (some 41) (.fad (.tmp 2) 9)),
    .o 3 (.lt (some 42) (.ld false 1 (.tmp 41))),
    .o 5 (.lt (some 44) (.fad (.tmp 2) 9)),
    .o 6 (.lt (some 45) (.ld false 1 (.tmp 44))),
    .o 7 (.lt (some 46) (.mov (.tmp 6))),
    .o 8 (.lt (some 47) (.bin .sub (.tmp 46) (.const (.int .i64 1)))),
    .o 9 (.lt (some 48) (.ixS 1 (.tmp 45) (.tmp 47))),
    .o 10 (.lt (some 49) (.ld false 1 (.tmp 48))),
    .o 11 (.bsv (some 50) 1 1 [.a (.slice none 0 0)] [(0, (.tmp 49))]),
    .o 4 (.app [2, 44, 45, 48] (some 43) 0 1 24 (.tmp 40) (.tmp 42)),
    .o 12 (.app [] (some 51) 2 1 24 (.tmp 43) (.tmp 50)),
    .o 13 (.lt (some 52) (.fad (.tmp 8) 9)),
    .o 14 (.store [] 1 (.tmp 52) (.tmp 51)),
    .g (.keep [1, 2, 5, 6, 7, 8, 9])]) (.seq (.reg 1 [.o 0 (.lt (some 53) (.fad (.tmp 9) 9)),
    .o 1 (.lt (some 54) (.ld false 1 (.tmp 53))),
    .o 2 (.lt (some 55) (.fad (.tmp 2) 9)),
    .o 3 (.lt (some 56) (.ld false 1 (.tmp 55))),
    .o 4 (.lt (some 57) (.mov (.tmp 6))),
    .o 5 (.lt (some 58) (.bin .sub (.tmp 57) (.const (.int .i64 1)))),
    .o 6 (.lt (some 59) (.slSl 1 (.tmp 56) none (some (.tmp 58)))),
    .o 7 (.app [] (some 60) 0 1 24 (.tmp 54) (.tmp 59)),
    .o 8 (.lt (some 61) (.fad (.tmp 9) 9)),
    .o 9 (.store [] 1 (.tmp 61) (.tmp 60)),
    .g (.keep [1, 2, 5, 6, 7, 8, 9])]) (.seq (.seq (.reg 0 [.o 0 (.lt (some 62) (.ld true 10 (.tmp 7))),
    .o 1 (.lt (some 63) (.mov (.tmp 1))),
    .o 2 (.callb (some 64) (.func model_Holds.id) [(.tmp 62), (.tmp 63)]),
    .o 3 (.lt (some 65) (.mov (.tmp 5))),
    .o 4 (.lt (some 66) (.eqB true (.tmp 64) (.tmp 65))),
    .o 5 (.lt (some 67) (.mov (.tmp 66))),
    .gd 6 67 false (some 68) (.lt (some 68) (.mov (.tmp 5))),
    .gd 7 67 false (some 69) (.lt (some 69) (.mov (.tmp 68))),
    .gd 8 69 true (some 70) (.lt (some 70) (.mov (.tmp 6))),
    .gd 9 69 true (some 71) (.lt (some 71) (.bin .lss (.tmp 70) (.const (.int .i64 64)))),
    .gd 10 67 false (some 72) (.lt (some 72) (.pick (.tmp 69) (.tmp 71) (.const (.bool false)))),
    .gd 11 67 false (some 73) (.lt (some 73) (.mov (.tmp 72))),
    .gd 12 73 true (some 74) (.lt (some 74) (.ld true 10 (.tmp 8))),
    .gd 13 73 true (some 75) (.lt (some 75) (.mov (.tmp 1))),
    .gd 14 73 true (some 76) (.callb (some 76) (.func model_Holds.id) [(.tmp 74), (.tmp 75)]),
    .gd 15 73 true (some 77) (.lt (some 77) (.un .not (.tmp 76))),
    .gd 16 67 false (some 78) (.lt (some 78) (.pick (.tmp 73) (.tmp 77) (.const (.bool false)))),
    .o 17 (.lt (some 79) (.pick (.tmp 67) (.const (.bool true)) (.tmp 78))),
    .g (.keep [1, 2, 5, 6, 8, 9, 79])]) (.cond (.tmp 79) (.seq (.reg 0 [.o 0 (.lt (some 4) (.mov (.const (.bool false)))),
    .g (.keep [4])]) (.ret)) (.skip))) (.seq (.seq (.reg 0 [.o 0 (.lt (some 80) (.ld true 10 (.tmp 2))),
    .o 1 (.lt (some 81) (.mov (.tmp 1))),
    .o 2 (.lt (some 82) (.lenSl (.tmp 81))),
    .o 3 (.callb (some 83) (.func hallmarklaw4_may.id) [(.tmp 80), (.tmp 82)]),
    .o 4 (.lt (some 84) (.un .not (.tmp 83))),
    .g (.keep [1, 5, 6, 8, 9, 84])]) (.cond (.tmp 84) (.seq (.reg 0 [.o 0 (.lt (some 85) (.mov (.tmp 5))),
    .o 1 (.lt (some 86) (.un .not (.tmp 85))),
    .o 2 (.lt (some 87) (.mov (.tmp 86))),
    .gd 3 87 false (some 88) (.lt (some 88) (.mov (.tmp 1))),
    .gd 4 87 false (some 89) (.lt (some 89) (.lenSl (.tmp 88))),
    .gd 5 87 false (some 90) (.lt (some 90) (.bin .gtr (.tmp 89) (.const (.int .i64 32)))),
    .o 6 (.lt (some 91) (.pick (.tmp 87) (.const (.bool true)) (.tmp 90))),
    .o 7 (.lt (some 4) (.mov (.tmp 91))),
    .g (.keep [4])]) (.ret)) (.skip))) (.seq (.reg 0 [.o 0 (.lt (some 92) (.mov (.tmp 6))),
    .o 1 (.lt (some 93) (.bin .eql (.tmp 92) (.const (.int .i64 64)))),
    .o 2 (.lt (some 94) (.mov (.tmp 93))),
    .gd 3 94 false (some 95) (.lt (some 95) (.ld true 10 (.tmp 8))),
    .gd 4 94 false (some 96) (.lt (some 96) (.mov (.tmp 1))),
    .gd 5 94 false (some 97) (.callb (some 97) (.func model_Holds.id) [(.tmp 95), (.tmp 96)]),
    .gd 6 94 false (some 98) (.lt (some 98) (.mov (.tmp 5))),
    .gd 7 94 false (some 99) (.lt (some 99) (.eqB false (.tmp 97) (.tmp 98))),
    .gd 8 94 false (some 100) (.lt (some 100) (.mov (.tmp 99))),
    .gd 9 100 true (some 101) (.lt (some 101) (.mov (.tmp 5))),
    .gd 10 100 true (some 102) (.lt (some 102) (.mov (.tmp 101))),
    .gd 11 102 false (some 103) (.lt (some 103) (.ld true 10 (.tmp 9))),
    .gd 12 102 false (some 104) (.lt (some 104) (.mov (.tmp 1))),
    .gd 13 102 false (some 105) (.callb (some 105) (.func model_Holds.id) [(.tmp 103), (.tmp 104)]),
    .gd 14 102 false (some 106) (.lt (some 106) (.un .not (.tmp 105))),
    .gd 15 100 true (some 107) (.lt (some 107) (.pick (.tmp 102) (.const (.bool true)) (.tmp 106))),
    .gd 16 94 false (some 108) (.lt (some 108) (.pick (.tmp 100) (.tmp 107) (.const (.bool false)))),
    .o 17 (.lt (some 109) (.pick (.tmp 94) (.const (.bool true)) (.tmp 108))),
    .o 18 (.lt (some 4) (.mov (.tmp 109))),
    .g (.keep [4])]) (.ret)))))))))))
def hallmarklaw4_tables.rs : List Rs := [.sl 4]
theorem hallmarklaw4_tables.ok : isFn Try.prog hallmarklaw4_tables.id 110 hallmarklaw4_tables.ann hallmarklaw4_tables.ir hallmarklaw4_tables.rs := ⟨Try.f15, _, Try.func15, rfl, rfl, by kernel_rfl, by kernel_rfl⟩
-- hallmark/hallmarklaw4.counts
def hallmarklaw4_counts.ann : List (Nat × RA) := [(0, { gs := [], keep := some [1, 2] }), (1, { gs := [], keep := some [1, 2, 5, 6, 7, 8], ord := [0, 1, 2, 3, 4, 5, 6, 7, 8, 9, 10, 11], aps := [(8, [2]), (9, [2]), (10, [2])] }), (2, { gs := [], keep := some [1, 2, 5, 6, 7, 8] }), (3, { gs := [], keep := some [1, 2, 5, 6, 7, 8], ord := [0, 1, 2, 3, 4, 5, 6], aps := [(4, [16])] }), (4, { gs := [], keep := some [1, 5, 6, 7, 52], ord := [0, 1, 2, 3, 4, 5, 6, 7, 8, 9, 10, 11, 12, 13, 14, 15, 16, 17, 18, 19, 20, 22, 23, 21, 24, 25, 26, 27, 28, 29, 30, 31], aps := [(21, [1000001]), (24, [1000001]), (28, [1000001])] }), (5, { gs := [], keep := some [4] }), (6, { gs := [], keep := some [4], ord := [0, 1, 3, 4, 2, 5, 6, 7, 8, 9, 10, 11, 12], aps := [(2, [1000001]), (5, [1000001]), (9, [1000001])] })]
def hallmarklaw4_counts.ir : C := .seq (.reg 1 [.o 0 (.box (some 2) 0 10 (.tmp 0)),
    .o 1 (.lt (some 4) (.mov (.const (.bool false)))),
    .g (.keep [1, 2])]) (.seq (.reg 4 [.o 0 (.lt (some 9) (.ld true 10 (.tmp 2))),
    .o 1 (.lt (some 10) (.ld true 10 (.tmp 2))),
    .o 2 (.lt (some 11) (.ld true 10 (.tmp 2))),
    .o 3 (.lt (some 12) (.ld true 10 (.tmp 2))),
    .o 4 (.alloc (some 5) 0 10 [.a (.int .i64 0), .a (.int .i64 0), .a (.slice none 0 0), .a (.int .i64 0), .a (.int .i64 0), .a (.int .i64 0), .a (.int .i64 0), .a (.slice none 0 0), .a (.slice none 0 0), .a (.slice none 0 0)]),
    .o 5 (.alloc (some 6) 1 10 [.a (.int .i64 0), .a (.int .i64 0), .a (.slice none 0 0), .a (.int .i64 0), .a (.int .i64 0), .a (.int .i64 0), .a (.int .i64 0), .a (.slice none 0 0), .a (.slice none 0 0), .a (.slice none 0 0)]),
    .o 6 (.alloc (some 7) 2 10 [.a (.int .i64 0), .a (.int .i64 0), .a (.slice none 0 0), .a (.int .i64 0), .a (.int .i64 0), .a (.int .i64 0), .a (.int .i64 0), .a (.slice none 0 0), .a (.slice none 0 0), .a (.slice none 0 0)]),
    .o 7 (.alloc (some 8) 3 10 [.a (.int .i64 0), .a (.int .i64 0), .a (.slice none 0 0), .a (.int .i64 0), .a (.int .i64 0), .a (.int .i64 0), .a (.int .i64 0), .a (.slice none 0 0), .a (.slice none 0 0), .a (.slice none 0 0)]),
    .o 8 (.store [2] 10 (.tmp 5) (.tmp 9)),
    .o 9 (.store [2] 10 (.tmp 6) (.tmp 10)),
    .o 10 (.store [2] 10 (.tmp 7) (.tmp 11)),
    .o 11 (.store [] 10 (.tmp 8) (.tmp 12)),
    .g (.keep [1, 2, 5, 6, 7, 8])]) (.seq (.reg 0 [.o 0 (.lt (some 13) (.fad (.tmp 5) 1)),
    .o 1 (.store [] 1 (.tmp 13) (.const (.int .i64 1))),
    .o 2 (.lt (some 14) (.fad (.tmp 6) 1)),
    .o 3 (.store [] 1 (.tmp 14) (.const (.int .i64 2))),
    .o 4 (.lt (some 15) (.fad (.tmp 7) 1)),
    .o 5 (.store [] 1 (.tmp 15) (.const (.int .i64 3))),
    .g (.keep [1, 2, 5, 6, 7, 8])]) (.seq (.reg 0 [.o 0 (.lt (some 16) (.fad (.tmp 2) 7)),
    .o 1 (.lt (some 17) (.ld false 1 (.tmp 16))),
    .o 2 (.lt (some 18) (.lenSl (.tmp 17))),
    .o 3 (.lt (some 19) (.fad (.tmp 8) 1)),
    .o 4 (.store [16] 1 (.tmp 19) (.const (.int .i64 1))),
    .o 5 (.lt (some 20) (.fad (.tmp 8) 3)),
    .o 6 (.store [] 1 (.tmp 20) (.tmp 18)),
    .g (.keep [1, 2, 5, 6, 7, 8])]) (.seq (.seq (.reg 0 [.o 0 (.lt (some 21) (.fad (.tmp 2) 1)),
    .o 1 (.lt (some 22) (.ld false 1 (.tmp 21))),
    .o 2 (.lt (some 23) (.bin .geq (.tmp 22) (.const (.int .i64 1)))),
    .o 3 (.lt (some 24) (.mov (.tmp 23))),
    .gd 4 24 true (some 25) (.lt (some 25) (.fad (.tmp 2) 1)),
    .gd 5 24 true (some 26) (.lt (some 26) (.ld false 1 (.tmp 25))),
    .gd 6 24 true (some 27) (.lt (some 27) (.bin .leq (.tmp 26) (.const (.int .i64 3)))),
    .o 7 (.lt (some 28) (.pick (.tmp 24) (.tmp 27) (.const (.bool false)))),
    .o 8 (.lt (some 29) (.mov (.tmp 28))),
    .gd 9 29 true (some 30) (.lt (some 30) (.fad (.tmp 2) 3)),
    .gd 10 29 true (some 31) (.lt (some 31) (.ld false 1 (.tmp 30))),
    .gd 11 29 true (some 32) (.lt (some 32) (.bin .geq (.tmp 31) (.const (.int .i64 (-1000000000))))),
    .o 12 (.lt (some 33) (.pick (.tmp 29) (.tmp 32) (.const (.bool false)))),
    .o 13 (.lt (some 34) (.mov (.tmp 33))),
    .gd 14 34 true (some 35) (.lt (some 35) (.fad (.tmp 2) 3)),
    .gd 15 34 true (some 36) (.lt (some 36) (.ld false 1 (.tmp 35))),
    .gd 16 34 true (some 37) (.lt (some 37) (.bin .leq (.tmp 36) (.const (.int .i64 1000000000)))),
    .o 17 (.lt (some 38) (.pick (.tmp 34) (.tmp 37) (.const (.bool false)))),
    .o 18 (.lt (some 39) (.mov (.tmp 38))),
    .gd 19 39 true (some 40) (.lt (some 40) (.ld true 10 (.tmp 8))),
    .gd 20 39 true (some 41) (.lt (some 41) (.mov (.tmp 1))),
    .gd 22 39 true (some 43) (.lt (some 43) (.ld true 10 (.tmp 5))),
    .gd 23 39 true (some 44) (.lt (some 44) (.mov (.tmp 1))),
    .gd 21 39 true (some 42) (.callb (some 42) (.func model_Holds.id) [(.tmp 40), (.tmp 41)]),
    .gd 24 39 true (some 45) (.callb (some 45) (.func model_Holds.id) [(.tmp 43), (.tmp 44)]),
    .gd 25 39 true (some 46) (.lt (some 46) (.mov (.tmp 45))),
    .gd 26 46 false (some 47) (.lt (some 47) (.ld true 10 (.tmp 7))),
    .gd 27 46 false (some 48) (.lt (some 48) (.mov (.tmp 1))),
    .gd 28 46 false (some 49) (.callb (some 49) (.func model_Holds.id) [(.tmp 47), (.tmp 48)]),
    .gd 29 39 true (some 50) (.lt (some 50) (.pick (.tmp 46) (.const (.bool true)) (.tmp 49))),
    .gd 30 39 true (some 51) (.lt (some 51) (.eqB true (.tmp 42) (.tmp 50))),
    .o 31 (.lt (some 52) (.pick (.tmp 39) (.tmp 51) (.const (.bool false)))),
    .g (.keep [1, 5, 6, 7, 52])]) (.cond (.tmp 52) (.seq (.reg 0 [.o 0 (.lt (some 4) (.mov (.const (.bool false)))),
    .g (.keep [4])]) (.ret)) (.skip))) (.seq (.reg 0 [.o 0 (.lt (some 53) (.ld true 10 (.tmp 6))),
    .o 1 (.lt (some 54) (.mov (.tmp 1))),
    .o 3 (.lt (some 56) (.ld true 10 (.tmp 5))),
    .o 4 (.lt (some 57) (.mov (.tmp 1))),
    .o 2 (.callb (some 55) (.func model_Holds.id) [(.tmp 53), (.tmp 54)]),
    .o 5 (.callb (some 58) (.func model_Holds.id) [(.tmp 56), (.tmp 57)]),
    .o 6 (.lt (some 59) (.mov (.tmp 58))),
    .gd 7 59 true (some 60) (.lt (some 60) (.ld true 10 (.tmp 7))),
    .gd 8 59 true (some 61) (.lt (some 61) (.mov (.tmp 1))),
    .gd 9 59 true (some 62) (.callb (some 62) (.func model_Holds.id) [(.tmp 60), (.tmp 61)]),
    .o 10 (.lt (some 63) (.pick (.tmp 59) (.tmp 62) (.const (.bool false)))),
    .o 11 (.lt (some 64) (.eqB false (.tmp 55) (.tmp 63))),
    .o 12 (.lt (some 4) (.mov (.tmp 64))),
    .g (.keep [4])]) (.ret))))))
def hallmarklaw4_counts.rs : List Rs := [.sl 4]
theorem hallmarklaw4_counts.ok : isFn Try.prog hallmarklaw4_counts.id 65 hallmarklaw4_counts.ann hallmarklaw4_counts.ir hallmarklaw4_counts.rs := ⟨Try.f16, _, Try.func16, rfl, rfl, by kernel_rfl, by kernel_rfl⟩
-- hallmark/model.Copy
def model_Copy.ann : List (Nat × RA) := [(0, { gs := [], keep := some [1, 2] }), (1, { gs := [], keep := some [1, 2], ord := [0, 1, 3, 4, 6, 7, 2, 9, 5, 8, 10, 11, 12, 13, 14], aps := [(8, [1000002])] }), (2, { gs := [], keep := some [1, 2, 20, 21] }), (3, { gs := [], keep := some [1, 2, 20, 21, 22] }), (4, { gs := [], keep := some [1, 2, 3, 20, 21] }), (5, { gs := [], keep := some [1, 2, 4, 20, 21] }), (6, { gs := [], keep := some [1, 2, 4, 20, 21], ord := [0, 1, 2, 3, 4, 5, 6, 7, 9, 10, 11, 12, 14, 15, 16, 17, 19, 20, 21, 22, 8, 13, 18, 23, 24, 25, 26, 27, 28, 29, 30, 31, 32, 33, 34, 35], aps := [(23, [1000002])] }), (7, { gs := [], keep := some [1, 2, 4, 20, 21, 64, 65] }), (8, { gs := [], keep := some [1, 2, 4, 20, 21, 64, 65, 66] }), (9, { gs := [], keep := some [1, 2, 4, 5, 20, 21, 64, 65] }), (10, { gs := [], keep := some [1, 2, 4, 20, 21, 64, 65], ord := [0, 1, 2, 3, 4, 5, 6, 7, 8, 9, 10, 11, 12, 13, 14] }), (11, { gs := [], keep := some [1, 2, 4, 20, 21, 64, 65] }), (12, { gs := [(0, [.wk])], keep := some [1, 2, 20, 21] }), (13, { gs := [], keep := some [2] })]
def model_Copy.b1 : C := .seq (.reg 0 [.o 0 (.lt (some 66) (.bin .lss (.tmp 65) (.tmp 64))),
    .g (.keep [1, 2, 4, 20, 21, 64, 65, 66])]) (.seq (.cond (.tmp 66) (.skip) (.exit 2)) (.seq (.block 3 (.seq (.reg 0 [.o 0 (.lt (some 67) (.mov (.tmp 65))),
    .o 1 (.lt (some 5) (.mov (.tmp 67))),
    .g (.keep [1, 2, 4, 5, 20, 21, 64, 65])]) (.reg 0 [.o 0 (.lt (some 68) (.mov (.tmp 4))),
    .o 1 (.lt (some 69) (.nilc (.tmp 68))),
    .o 2 (.lt (some 70) (.fad (.tmp 69) 9)),
    .o 3 (.lt (some 71) (.ld false 1 (.tmp 70))),
    .o 4 (.lt (some 72) (.mov (.tmp 5))),
    .o 5 (.lt (some 73) (.mov (.tmp 4))),
    .o 6 (.lt (some 74) (.nilc (.tmp 73))),
    .o 7 (.lt (some 75) (.fad (.tmp 74) 9)),
    .o 8 (.lt (some 76) (.ld false 1 (.tmp 75))),
    .o 9 (.lt (some 77) (.mov (.tmp 5))),
    .o 10 (.lt (some 78) (.ixS 1 (.tmp 76) (.tmp 77))),
    .o 11 (.lt (some 79) (.ld false 1 (.tmp 78))),
    .o 12 (.call (some 80) slices_Clone_Lint_int.id [(.tmp 79)]),
    .o 13 (.lt (some 81) (.ixS 1 (.tmp 71) (.tmp 72))),
    .o 14 (.store [] 1 (.tmp 81) (.tmp 80)),
    .g (.keep [1, 2, 4, 20, 21, 64, 65])]))) (.reg 0 [.o 0 (.lt (some 82) (.bin .add (.tmp 65) (.const (.int .i64 1)))),
    .o 1 (.lt (some 65) (.mov (.tmp 82))),
    .g (.keep [1, 2, 4, 20, 21, 64, 65])])))
def model_Copy.b0 : C := .seq (.reg 0 [.o 0 (.lt (some 22) (.bin .lss (.tmp 21) (.tmp 20))),
    .g (.keep [1, 2, 20, 21, 22])]) (.seq (.cond (.tmp 22) (.skip) (.exit 0)) (.seq (.block 1 (.seq (.reg 0 [.o 0 (.lt (some 23) (.mov (.tmp 21))),
    .o 1 (.lt (some 3) (.mov (.tmp 23))),
    .g (.keep [1, 2, 3, 20, 21])]) (.seq (.reg 0 [.o 0 (.lt (some 24) (.fad (.tmp 1) 1)),
    .o 1 (.lt (some 25) (.ld false 1 (.tmp 24))),
    .o 2 (.lt (some 26) (.mov (.tmp 3))),
    .o 3 (.lt (some 27) (.ixS 10 (.tmp 25) (.tmp 26))),
    .o 4 (.lt (some 4) (.mov (.tmp 27))),
    .g (.keep [1, 2, 4, 20, 21])]) (.seq (.reg 0 [.o 0 (.lt (some 28) (.mov (.tmp 4))),
    .o 1 (.lt (some 29) (.mov (.tmp 4))),
    .o 2 (.lt (some 30) (.mov (.tmp 4))),
    .o 3 (.lt (some 31) (.mov (.tmp 4))),
    .o 4 (.lt (some 32) (.mov (.tmp 4))),
    .o 5 (.lt (some 33) (.nilc (.tmp 32))),
    .o 6 (.lt (some 34) (.fad (.tmp 33) 2)),
    .o 7 (.lt (some 35) (.ld false 1 (.tmp 34))),
    .o 9 (.lt (some 37) (.mov (.tmp 4))),
    .o 10 (.lt (some 38) (.nilc (.tmp 37))),
    .o 11 (.lt (some 39) (.fad (.tmp 38) 7)),
    .o 12 (.lt (some 40) (.ld false 1 (.tmp 39))),
    .o 14 (.lt (some 42) (.mov (.tmp 4))),
    .o 15 (.lt (some 43) (.nilc (.tmp 42))),
    .o 16 (.lt (some 44) (.fad (.tmp 43) 8)),
    .o 17 (.lt (some 45) (.ld false 1 (.tmp 44))),
    .o 19 (.lt (some 47) (.mov (.tmp 4))),
    .o 20 (.lt (some 48) (.nilc (.tmp 47))),
    .o 21 (.lt (some 49) (.fad (.tmp 48) 9)),
    .o 22 (.lt (some 50) (.ld false 1 (.tmp 49))),
    .o 8 (.call (some 36) slices_Clone_Lapi_Term_api_Term.id [(.tmp 35)]),
    .o 13 (.call (some 41) slices_Clone_Lint_int.id [(.tmp 40)]),
    .o 18 (.call (some 46) slices_Clone_Lint_int.id [(.tmp 45)]),
    .o 23 (.callo (some 51) (.func slices_Clone_LLint_Lint.id) [(.tmp 50)]),
    .o 24 (.lt (some 52) (.nilc (.tmp 28))),
    .o 25 (.lt (some 53) (.fad (.tmp 52) 2)),
    .o 26 (.store [] 1 (.tmp 53) (.tmp 36)),
    .o 27 (.lt (some 54) (.nilc (.tmp 29))),
    .o 28 (.lt (some 55) (.fad (.tmp 54) 7)),
    .o 29 (.store [] 1 (.tmp 55) (.tmp 41)),
    .o 30 (.lt (some 56) (.nilc (.tmp 30))),
    .o 31 (.lt (some 57) (.fad (.tmp 56) 8)),
    .o 32 (.store [] 1 (.tmp 57) (.tmp 46)),
    .o 33 (.lt (some 58) (.nilc (.tmp 31))),
    .o 34 (.lt (some 59) (.fad (.tmp 58) 9)),
    .o 35 (.store [] 1 (.tmp 59) (.tmp 51)),
    .g (.keep [1, 2, 4, 20, 21])]) (.seq (.reg 0 [.o 0 (.lt (some 60) (.mov (.tmp 4))),
    .o 1 (.lt (some 61) (.nilc (.tmp 60))),
    .o 2 (.lt (some 62) (.fad (.tmp 61) 9)),
    .o 3 (.lt (some 63) (.ld false 1 (.tmp 62))),
    .o 4 (.lt (some 64) (.lenSl (.tmp 63))),
    .o 5 (.lt (some 65) (.mov (.const (.int .i64 0)))),
    .g (.keep [1, 2, 4, 20, 21, 64, 65])]) (.block 2 (.loop model_Copy.b1))))))) (.reg 0 [.g (.wk),
    .o 0 (.lt (some 83) (.bin .add (.tmp 21) (.const (.int .i64 1)))),
    .o 1 (.lt (some 21) (.mov (.tmp 83))),
    .g (.keep [1, 2, 20, 21])])))
def model_Copy.ir : C := .seq (.reg 2 [.o 0 (.box (some 1) 0 4 (.tmp 0)),
    .o 1 (.alloc (some 2) 1 4 [.a (.slice none 0 0), .a (.slice none 0 0), .a (.bool false), .a (.slice none 0 0)]),
    .g (.keep [1, 2])]) (.seq (.reg 0 [.o 0 (.lt (some 6) (.fad (.tmp 1) 0)),
    .o 1 (.lt (some 7) (.ld false 1 (.tmp 6))),
    .o 3 (.lt (some 9) (.fad (.tmp 1) 3)),
    .o 4 (.lt (some 10) (.ld false 1 (.tmp 9))),
    .o 6 (.lt (some 12) (.fad (.tmp 1) 1)),
    .o 7 (.lt (some 13) (.ld false 1 (.tmp 12))),
    .o 2 (.call (some 8) slices_Clone_Lapi_Var_api_Var.id [(.tmp 7)]),
    .o 9 (.lt (some 15) (.fad (.tmp 1) 0)),
    .o 5 (.call (some 11) slices_Clone_Lapi_Term_api_Term.id [(.tmp 10)]),
    .o 8 (.callo (some 14) (.func slices_Clone_Lapi_Con_api_Con.id) [(.tmp 13)]),
    .o 10 (.store [] 1 (.tmp 15) (.tmp 8)),
    .o 11 (.lt (some 16) (.fad (.tmp 1) 3)),
    .o 12 (.store [] 1 (.tmp 16) (.tmp 11)),
    .o 13 (.lt (some 17) (.fad (.tmp 1) 1)),
    .o 14 (.store [] 1 (.tmp 17) (.tmp 14)),
    .g (.keep [1, 2])]) (.seq (.seq (.reg 0 [.o 0 (.lt (some 18) (.fad (.tmp 1) 1)),
    .o 1 (.lt (some 19) (.ld false 1 (.tmp 18))),
    .o 2 (.lt (some 20) (.lenSl (.tmp 19))),
    .o 3 (.lt (some 21) (.mov (.const (.int .i64 0)))),
    .g (.keep [1, 2, 20, 21])]) (.block 0 (.loop model_Copy.b0))) (.seq (.reg 0 [.o 0 (.lt (some 84) (.ld true 4 (.tmp 1))),
    .o 1 (.store [] 4 (.tmp 2) (.tmp 84)),
    .g (.keep [2])]) (.ret))))
def model_Copy.rs : List Rs := [.ce 2 true 4]
theorem model_Copy.ok : isFn Try.prog model_Copy.id 85 model_Copy.ann model_Copy.ir model_Copy.rs := ⟨Try.f17, _, Try.func17, rfl, rfl, by kernel_rfl, by kernel_rfl⟩
-- hallmark/model.Solution
def model_Solution.ann : List (Nat × RA) := [(0, { gs := [], keep := some [2, 3] }), (1, { gs := [], keep := some [2, 3, 17] }), (2, { gs := [], keep := some [4] }), (3, { gs := [], keep := some [2, 3, 19, 20, 21] }), (4, { gs := [], keep := some [2, 3, 19, 20, 21, 22] }), (5, { gs := [], keep := some [2, 3, 5, 6, 19, 20, 21] }), (6, { gs := [], keep := some [2, 3, 19, 20, 21, 41], ord := [0, 1, 2, 3, 4, 5, 6, 7, 8, 9, 10, 11, 12, 13, 14, 15] }), (7, { gs := [], keep := some [4] }), (8, { gs := [], keep := some [2, 3, 19, 20, 21] }), (9, { gs := [], keep := some [4], aps := [(3, [1000001])] })]
def model_Solution.b0 : C := .seq (.reg 0 [.o 0 (.lt (some 22) (.bin .lss (.tmp 21) (.tmp 20))),
    .g (.keep [2, 3, 19, 20, 21, 22])]) (.seq (.cond (.tmp 22) (.skip) (.exit 0)) (.seq (.block 1 (.seq (.reg 1 [.o 0 (.lt (some 23) (.mov (.tmp 21))),
    .o 1 (.lt (some 24) (.ixS 3 (.tmp 19) (.tmp 21))),
    .o 2 (.lt (some 25) (.ld true 3 (.tmp 24))),
    .o 3 (.alloc (some 6) 0 3 [.a (.string ⟨#[]⟩), .a (.int .i64 0), .a (.int .i64 0)]),
    .o 4 (.lt (some 5) (.mov (.tmp 23))),
    .o 5 (.store [] 3 (.tmp 6) (.tmp 25)),
    .g (.keep [2, 3, 5, 6, 19, 20, 21])]) (.seq (.reg 0 [.o 0 (.lt (some 26) (.ld false 1 (.tmp 3))),
    .o 1 (.lt (some 27) (.mov (.tmp 5))),
    .o 2 (.lt (some 28) (.ixS 1 (.tmp 26) (.tmp 27))),
    .o 3 (.lt (some 29) (.ld false 1 (.tmp 28))),
    .o 4 (.lt (some 30) (.fad (.tmp 6) 1)),
    .o 5 (.lt (some 31) (.ld false 1 (.tmp 30))),
    .o 6 (.lt (some 32) (.bin .lss (.tmp 29) (.tmp 31))),
    .o 7 (.lt (some 33) (.mov (.tmp 32))),
    .gd 8 33 false (some 34) (.lt (some 34) (.ld false 1 (.tmp 3))),
    .gd 9 33 false (some 35) (.lt (some 35) (.mov (.tmp 5))),
    .gd 10 33 false (some 36) (.lt (some 36) (.ixS 1 (.tmp 34) (.tmp 35))),
    .gd 11 33 false (some 37) (.lt (some 37) (.ld false 1 (.tmp 36))),
    .gd 12 33 false (some 38) (.lt (some 38) (.fad (.tmp 6) 2)),
    .gd 13 33 false (some 39) (.lt (some 39) (.ld false 1 (.tmp 38))),
    .gd 14 33 false (some 40) (.lt (some 40) (.bin .gtr (.tmp 37) (.tmp 39))),
    .o 15 (.lt (some 41) (.pick (.tmp 33) (.const (.bool true)) (.tmp 40))),
    .g (.keep [2, 3, 19, 20, 21, 41])]) (.cond (.tmp 41) (.seq (.reg 0 [.o 0 (.lt (some 4) (.mov (.const (.bool false)))),
    .g (.keep [4])]) (.ret)) (.skip))))) (.reg 0 [.o 0 (.lt (some 42) (.bin .add (.tmp 21) (.const (.int .i64 1)))),
    .o 1 (.lt (some 21) (.mov (.tmp 42))),
    .g (.keep [2, 3, 19, 20, 21])])))
def model_Solution.ir : C := .seq (.reg 2 [.o 0 (.box (some 2) 0 4 (.tmp 0)),
    .o 1 (.box (some 3) 1 1 (.tmp 1)),
    .o 2 (.lt (some 4) (.mov (.const (.bool false)))),
    .g (.keep [2, 3])]) (.seq (.seq (.reg 0 [.o 0 (.lt (some 7) (.ld true 4 (.tmp 2))),
    .o 1 (.call (some 8) model_right.id [(.tmp 7)]),
    .o 2 (.lt (some 9) (.un .not (.tmp 8))),
    .o 3 (.lt (some 10) (.mov (.tmp 9))),
    .gd 4 10 false (some 11) (.lt (some 11) (.ld false 1 (.tmp 3))),
    .gd 5 10 false (some 12) (.lt (some 12) (.lenSl (.tmp 11))),
    .gd 6 10 false (some 13) (.lt (some 13) (.fad (.tmp 2) 0)),
    .gd 7 10 false (some 14) (.lt (some 14) (.ld false 1 (.tmp 13))),
    .gd 8 10 false (some 15) (.lt (some 15) (.lenSl (.tmp 14))),
    .gd 9 10 false (some 16) (.lt (some 16) (.bin .neq (.tmp 12) (.tmp 15))),
    .o 10 (.lt (some 17) (.pick (.tmp 10) (.const (.bool true)) (.tmp 16))),
    .g (.keep [2, 3, 17])]) (.cond (.tmp 17) (.seq (.reg 0 [.o 0 (.lt (some 4) (.mov (.const (.bool false)))),
    .g (.keep [4])]) (.ret)) (.skip))) (.seq (.seq (.reg 0 [.o 0 (.lt (some 18) (.fad (.tmp 2) 0)),
    .o 1 (.lt (some 19) (.ld false 1 (.tmp 18))),
    .o 2 (.lt (some 20) (.lenSl (.tmp 19))),
    .o 3 (.lt (some 21) (.mov (.const (.int .i64 0)))),
    .g (.keep [2, 3, 19, 20, 21])]) (.block 0 (.loop model_Solution.b0))) (.seq (.reg 0 [.o 0 (.lt (some 43) (.fad (.tmp 2) 1)),
    .o 1 (.lt (some 44) (.ld false 1 (.tmp 43))),
    .o 2 (.lt (some 45) (.mkfn (.func model_Solution_1.id) [] [(.tmp 3)])),
    .o 3 (.callb (some 46) (.func slices_ContainsFunc_Lapi_Con_api_Con.id) [(.tmp 44), (.tmp 45)]),
    .o 4 (.lt (some 47) (.un .not (.tmp 46))),
    .o 5 (.lt (some 4) (.mov (.tmp 47))),
    .g (.keep [4])]) (.ret))))
def model_Solution.rs : List Rs := [.sl 4]
theorem model_Solution.ok : isFn Try.prog model_Solution.id 48 model_Solution.ann model_Solution.ir model_Solution.rs := ⟨Try.f18, _, Try.func18, rfl, rfl, by kernel_rfl, by kernel_rfl⟩
-- hallmark/hallmarkroom.Many
def hallmarkroom_Many.ann : List (Nat × RA) := [(0, { gs := [], keep := some [0] }), (1, { gs := [], keep := some [2] })]
def hallmarkroom_Many.ir : C := .seq (.reg 0 [.o 0 (.lt (some 2) (.mov (.const (.pointer none)))),
    .g (.keep [0])]) (.seq (.reg 1 [.o 0 (.lt (some 3) (.mov (.tmp 0))),
    .o 1 (.lt (some 4) (.build [.a (.int .i64 0)] [(0, 1, (.tmp 3))])),
    .o 2 (.box (some 5) 0 1 (.tmp 4)),
    .o 3 (.lt (some 2) (.mov (.tmp 5))),
    .g (.keep [2])]) (.ret))
def hallmarkroom_Many.rs : List Rs := [.sl 2]
theorem hallmarkroom_Many.ok : isFn Try.prog hallmarkroom_Many.id 6 hallmarkroom_Many.ann hallmarkroom_Many.ir hallmarkroom_Many.rs := ⟨Try.f19, _, Try.func19, rfl, rfl, by kernel_rfl, by kernel_rfl⟩
-- (*hallmark/hallmarkroom.Count).Model
def hallmarkroom_Count_Model.ann : List (Nat × RA) := [(0, { gs := [], keep := some [0, 3] }), (1, { gs := [], keep := some [0, 3, 4] }), (2, { gs := [], keep := some [0, 3, 4, 14], aps := [(7, [1000000])] }), (3, { gs := [], keep := some [0, 3, 4] }), (4, { gs := [], keep := some [0, 3, 4], aps := [(7, [1000000])] }), (5, { gs := [], keep := some [0, 3, 5] }), (6, { gs := [], keep := some [0, 3, 5, 33], aps := [(7, [1000000])] }), (7, { gs := [], keep := some [0, 3, 5] }), (8, { gs := [], keep := some [0, 3, 5], aps := [(6, [1000000])] }), (9, { gs := [], keep := some [], aps := [(4, [1000000])] })]
def hallmarkroom_Count_Model.b1 : C := .seq (.seq (.reg 0 [.o 0 (.lt (some 25) (.mov (.tmp 5))),
    .o 1 (.lt (some 26) (.fad (.tmp 3) 1)),
    .o 2 (.lt (some 27) (.ld false 1 (.tmp 26))),
    .o 3 (.lt (some 28) (.lenSl (.tmp 27))),
    .o 4 (.lt (some 29) (.bin .lss (.tmp 25) (.tmp 28))),
    .o 5 (.lt (some 30) (.mov (.tmp 29))),
    .gd 6 30 true (some 31) (.lt (some 31) (.mov (.tmp 0))),
    .gd 7 30 true (some 32) (.callm (some 32) (.func hallmarkroom_Count_Ok.id) [(.tmp 31)]),
    .o 8 (.lt (some 33) (.pick (.tmp 30) (.tmp 32) (.const (.bool false)))),
    .g (.keep [0, 3, 5, 33])]) (.cond (.tmp 33) (.skip) (.exit 2))) (.seq (.block 3 (.reg 0 [.o 0 (.lt (some 36) (.mov (.tmp 0))),
    .o 1 (.lt (some 37) (.fad (.tmp 3) 1)),
    .o 2 (.lt (some 38) (.ld false 1 (.tmp 37))),
    .o 3 (.lt (some 39) (.mov (.tmp 5))),
    .o 4 (.lt (some 40) (.ixS 10 (.tmp 38) (.tmp 39))),
    .o 5 (.lt (some 41) (.ld true 10 (.tmp 40))),
    .o 6 (.callm (some 42) (.func hallmarkroom_Count_Con.id) [(.tmp 36), (.tmp 41)]),
    .g (.keep [0, 3, 5])])) (.reg 0 [.o 0 (.lt (some 34) (.mov (.tmp 5))),
    .o 1 (.lt (some 35) (.bin .add (.tmp 34) (.const (.int .i64 1)))),
    .o 2 (.lt (some 5) (.mov (.tmp 35))),
    .g (.keep [0, 3, 5])]))
def hallmarkroom_Count_Model.b0 : C := .seq (.seq (.reg 0 [.o 0 (.lt (some 6) (.mov (.tmp 4))),
    .o 1 (.lt (some 7) (.fad (.tmp 3) 0)),
    .o 2 (.lt (some 8) (.ld false 1 (.tmp 7))),
    .o 3 (.lt (some 9) (.lenSl (.tmp 8))),
    .o 4 (.lt (some 10) (.bin .lss (.tmp 6) (.tmp 9))),
    .o 5 (.lt (some 11) (.mov (.tmp 10))),
    .gd 6 11 true (some 12) (.lt (some 12) (.mov (.tmp 0))),
    .gd 7 11 true (some 13) (.callm (some 13) (.func hallmarkroom_Count_Ok.id) [(.tmp 12)]),
    .o 8 (.lt (some 14) (.pick (.tmp 11) (.tmp 13) (.const (.bool false)))),
    .g (.keep [0, 3, 4, 14])]) (.cond (.tmp 14) (.skip) (.exit 0))) (.seq (.block 1 (.reg 0 [.o 0 (.lt (some 17) (.mov (.tmp 0))),
    .o 1 (.lt (some 18) (.fad (.tmp 3) 0)),
    .o 2 (.lt (some 19) (.ld false 1 (.tmp 18))),
    .o 3 (.lt (some 20) (.mov (.tmp 4))),
    .o 4 (.lt (some 21) (.ixS 3 (.tmp 19) (.tmp 20))),
    .o 5 (.lt (some 22) (.fad (.tmp 21) 0)),
    .o 6 (.lt (some 23) (.ld false 1 (.tmp 22))),
    .o 7 (.callm (some 24) (.func hallmarkroom_Count_Text.id) [(.tmp 17), (.tmp 23)]),
    .g (.keep [0, 3, 4])])) (.reg 0 [.o 0 (.lt (some 15) (.mov (.tmp 4))),
    .o 1 (.lt (some 16) (.bin .add (.tmp 15) (.const (.int .i64 1)))),
    .o 2 (.lt (some 4) (.mov (.tmp 16))),
    .g (.keep [0, 3, 4])]))
def hallmarkroom_Count_Model.ir : C := .seq (.reg 1 [.o 0 (.box (some 3) 0 4 (.tmp 1)),
    .g (.keep [0, 3])]) (.seq (.seq (.reg 0 [.o 0 (.lt (some 4) (.mov (.const (.int .i64 0)))),
    .g (.keep [0, 3, 4])]) (.block 0 (.loop hallmarkroom_Count_Model.b0))) (.seq (.seq (.reg 0 [.o 0 (.lt (some 5) (.mov (.const (.int .i64 0)))),
    .g (.keep [0, 3, 5])]) (.block 2 (.loop hallmarkroom_Count_Model.b1))) (.reg 0 [.o 0 (.lt (some 43) (.mov (.tmp 0))),
    .o 1 (.lt (some 44) (.fad (.tmp 3) 3)),
    .o 2 (.lt (some 45) (.ld false 1 (.tmp 44))),
    .o 3 (.lt (some 46) (.lenSl (.tmp 45))),
    .o 4 (.callm (some 47) (.func hallmarkroom_Count_Add.id) [(.tmp 43), (.tmp 46)]),
    .g (.keep [])])))
def hallmarkroom_Count_Model.rs : List Rs := []
theorem hallmarkroom_Count_Model.ok : isFn Try.prog hallmarkroom_Count_Model.id 48 hallmarkroom_Count_Model.ann hallmarkroom_Count_Model.ir hallmarkroom_Count_Model.rs := ⟨Try.f20, _, Try.func20, rfl, rfl, by kernel_rfl, by kernel_rfl⟩
-- (*hallmark/hallmarkroom.Count).Add
def hallmarkroom_Count_Add.ann : List (Nat × RA) := [(0, { gs := [], keep := some [0, 1] }), (1, { gs := [], keep := some [0, 1, 9] }), (2, { gs := [], keep := some [0] }), (3, { gs := [], keep := some [4] })]
def hallmarkroom_Count_Add.ir : C := .seq (.reg 0 [.o 0 (.lt (some 4) (.mov (.const (.bool false)))),
    .g (.keep [0, 1])]) (.seq (.seq (.reg 0 [.o 0 (.lt (some 5) (.mov (.tmp 0))),
    .o 1 (.lt (some 6) (.nilc (.tmp 5))),
    .o 2 (.lt (some 7) (.fad (.tmp 6) 0)),
    .o 3 (.lt (some 8) (.ld false 1 (.tmp 7))),
    .o 4 (.lt (some 9) (.bin .geq (.tmp 8) (.const (.int .i64 0)))),
    .g (.keep [0, 1, 9])]) (.cond (.tmp 9) (.reg 0 [.o 0 (.lt (some 10) (.mov (.tmp 0))),
    .o 1 (.lt (some 11) (.mov (.tmp 0))),
    .o 2 (.lt (some 12) (.nilc (.tmp 11))),
    .o 3 (.lt (some 13) (.fad (.tmp 12) 0)),
    .o 4 (.lt (some 14) (.ld false 1 (.tmp 13))),
    .o 5 (.lt (some 15) (.mov (.tmp 1))),
    .o 6 (.lt (some 16) (.bin .sub (.tmp 14) (.tmp 15))),
    .o 7 (.lt (some 17) (.nilc (.tmp 10))),
    .o 8 (.lt (some 18) (.fad (.tmp 17) 0)),
    .o 9 (.store [] 1 (.tmp 18) (.tmp 16)),
    .g (.keep [0])]) (.skip))) (.seq (.reg 0 [.o 0 (.lt (some 19) (.mov (.tmp 0))),
    .o 1 (.lt (some 20) (.nilc (.tmp 19))),
    .o 2 (.lt (some 21) (.fad (.tmp 20) 0)),
    .o 3 (.lt (some 22) (.ld false 1 (.tmp 21))),
    .o 4 (.lt (some 23) (.bin .geq (.tmp 22) (.const (.int .i64 0)))),
    .o 5 (.lt (some 4) (.mov (.tmp 23))),
    .g (.keep [4])]) (.ret)))
def hallmarkroom_Count_Add.rs : List Rs := [.sl 4]
theorem hallmarkroom_Count_Add.ok : isFn Try.prog hallmarkroom_Count_Add.id 24 hallmarkroom_Count_Add.ann hallmarkroom_Count_Add.ir hallmarkroom_Count_Add.rs := ⟨Try.f21, _, Try.func21, rfl, rfl, by kernel_rfl, by kernel_rfl⟩
-- (*hallmark/hallmarkroom.Count).Ok
def hallmarkroom_Count_Ok.ann : List (Nat × RA) := [(0, { gs := [], keep := some [0] }), (1, { gs := [], keep := some [2] })]
def hallmarkroom_Count_Ok.ir : C := .seq (.reg 0 [.o 0 (.lt (some 2) (.mov (.const (.bool false)))),
    .g (.keep [0])]) (.seq (.reg 0 [.o 0 (.lt (some 3) (.mov (.tmp 0))),
    .o 1 (.lt (some 4) (.nilc (.tmp 3))),
    .o 2 (.lt (some 5) (.fad (.tmp 4) 0)),
    .o 3 (.lt (some 6) (.ld false 1 (.tmp 5))),
    .o 4 (.lt (some 7) (.bin .geq (.tmp 6) (.const (.int .i64 0)))),
    .o 5 (.lt (some 2) (.mov (.tmp 7))),
    .g (.keep [2])]) (.ret))
def hallmarkroom_Count_Ok.rs : List Rs := [.sl 2]
theorem hallmarkroom_Count_Ok.ok : isFn Try.prog hallmarkroom_Count_Ok.id 8 hallmarkroom_Count_Ok.ann hallmarkroom_Count_Ok.ir hallmarkroom_Count_Ok.rs := ⟨Try.f22, _, Try.func22, rfl, rfl, by kernel_rfl, by kernel_rfl⟩
-- hallmark/hallmarklaw4.two
def hallmarklaw4_two.ann : List (Nat × RA) := [(0, { gs := [], keep := some [0] }), (1, { gs := [], keep := some [0] })]
def hallmarklaw4_two.ir : C := .seq (.reg 1 [.o 0 (.alloc (some 0) 0 4 [.a (.slice none 0 0), .a (.slice none 0 0), .a (.bool false), .a (.slice none 0 0)]),
    .g (.keep [0])]) (.seq (.reg 2 [.o 0 (.lt (some 1) (.build [.a (.string ⟨#[]⟩), .a (.int .i64 0), .a (.int .i64 0)] [(0, 1, (.const (.string { data := #[120] }))), (1, 1, (.const (.int .i64 0))), (2, 1, (.const (.int .i64 3)))])),
    .o 1 (.lt (some 2) (.build [.a (.string ⟨#[]⟩), .a (.int .i64 0), .a (.int .i64 0)] [(0, 1, (.const (.string { data := #[121] }))), (1, 1, (.const (.int .i64 (-1)))), (2, 1, (.const (.int .i64 2)))])),
    .o 2 (.bsl (some 3) 0 3 2 [.a (.string ⟨#[]⟩), .a (.int .i64 0), .a (.int .i64 0)] [(0, (.tmp 1)), (1, (.tmp 2))]),
    .o 3 (.lt (some 4) (.build [.a (.int .i64 0), .a (.int .i64 0)] [(0, 1, (.const (.int .i64 3))), (1, 1, (.const (.int .i64 0)))])),
    .o 4 (.lt (some 5) (.build [.a (.int .i64 0), .a (.int .i64 0)] [(0, 1, (.const (.int .i64 (-2)))), (1, 1, (.const (.int .i64 1)))])),
    .o 5 (.bsl (some 6) 1 2 2 [.a (.int .i64 0), .a (.int .i64 0)] [(0, (.tmp 4)), (1, (.tmp 5))]),
    .o 6 (.lt (some 7) (.build [.a (.slice none 0 0), .a (.slice none 0 0), .a (.bool false), .a (.slice none 0 0)] [(0, 1, (.tmp 3)), (2, 1, (.const (.bool true))), (3, 1, (.tmp 6))])),
    .o 7 (.store [] 4 (.tmp 0) (.tmp 7)),
    .g (.keep [0])]) (.ret))
def hallmarklaw4_two.rs : List Rs := [.ce 0 true 4]
theorem hallmarklaw4_two.ok : isFn Try.prog hallmarklaw4_two.id 8 hallmarklaw4_two.ann hallmarklaw4_two.ir hallmarklaw4_two.rs := ⟨Try.f23, _, Try.func23, rfl, rfl, by kernel_rfl, by kernel_rfl⟩
-- hallmark/model.Check
def model_Check.ann : List (Nat × RA) := [(0, { gs := [], keep := some [1] }), (1, { gs := [], keep := some [1, 19] }), (2, { gs := [], keep := some [2, 3] }), (3, { gs := [], keep := some [1, 22, 23] }), (4, { gs := [], keep := some [1, 22, 23, 24] }), (5, { gs := [], keep := some [1, 4, 22, 23] }), (6, { gs := [], keep := some [1, 4, 5, 22, 23] }), (7, { gs := [], keep := some [1, 4, 5, 22, 23, 31] }), (8, { gs := [], keep := some [2, 3] }), (9, { gs := [], keep := some [1, 22, 23] }), (10, { gs := [], keep := some [1, 38] }), (11, { gs := [], keep := some [2, 3] }), (12, { gs := [], keep := some [1, 43, 44, 45] }), (13, { gs := [], keep := some [1, 43, 44, 45, 46] }), (14, { gs := [], keep := some [1, 6, 7, 43, 44, 45] }), (15, { gs := [], keep := some [1, 6, 8, 43, 44, 45] }), (16, { gs := [], keep := some [1, 6, 8, 43, 44, 45, 56] }), (17, { gs := [], keep := some [2, 3] }), (18, { gs := [], keep := some [1, 43, 44, 45] }), (19, { gs := [], keep := some [1, 9] }), (20, { gs := [], keep := some [1, 9, 67] }), (21, { gs := [], keep := some [2, 3] }), (22, { gs := [], keep := some [2, 3] })]
def model_Check.b1 : C := .seq (.reg 0 [.o 0 (.lt (some 46) (.bin .lss (.tmp 45) (.tmp 44))),
    .g (.keep [1, 43, 44, 45, 46])]) (.seq (.cond (.tmp 46) (.skip) (.exit 2)) (.seq (.block 3 (.seq (.reg 1 [.o 0 (.lt (some 47) (.mov (.tmp 45))),
    .o 1 (.lt (some 48) (.ixS 10 (.tmp 43) (.tmp 45))),
    .o 2 (.lt (some 49) (.ld true 10 (.tmp 48))),
    .o 3 (.alloc (some 7) 0 10 [.a (.int .i64 0), .a (.int .i64 0), .a (.slice none 0 0), .a (.int .i64 0), .a (.int .i64 0), .a (.int .i64 0), .a (.int .i64 0), .a (.slice none 0 0), .a (.slice none 0 0), .a (.slice none 0 0)]),
    .o 4 (.lt (some 6) (.mov (.tmp 47))),
    .o 5 (.store [] 10 (.tmp 7) (.tmp 49)),
    .g (.keep [1, 6, 7, 43, 44, 45])]) (.seq (.reg 0 [.o 0 (.lt (some 50) (.ld true 10 (.tmp 7))),
    .o 1 (.lt (some 51) (.fad (.tmp 1) 0)),
    .o 2 (.lt (some 52) (.ld false 1 (.tmp 51))),
    .o 3 (.lt (some 53) (.lenSl (.tmp 52))),
    .o 4 (.call (some 54) model_con.id [(.tmp 50), (.tmp 53)]),
    .o 5 (.lt (some 8) (.mov (.tmp 54))),
    .g (.keep [1, 6, 8, 43, 44, 45])]) (.seq (.reg 0 [.o 0 (.lt (some 55) (.mov (.tmp 8))),
    .o 1 (.lt (some 56) (.bin .neq (.tmp 55) (.const (.int .i64 0)))),
    .g (.keep [1, 6, 8, 43, 44, 45, 56])]) (.cond (.tmp 56) (.seq (.reg 0 [.o 0 (.lt (some 57) (.fad (.tmp 1) 0)),
    .o 1 (.lt (some 58) (.ld false 1 (.tmp 57))),
    .o 2 (.lt (some 59) (.lenSl (.tmp 58))),
    .o 3 (.lt (some 60) (.mov (.tmp 6))),
    .o 4 (.lt (some 61) (.bin .add (.tmp 59) (.tmp 60))),
    .o 5 (.lt (some 62) (.mov (.tmp 8))),
    .o 6 (.lt (some 2) (.mov (.tmp 61))),
    .o 7 (.lt (some 3) (.mov (.tmp 62))),
    .g (.keep [2, 3])]) (.ret)) (.skip)))))) (.reg 0 [.o 0 (.lt (some 63) (.bin .add (.tmp 45) (.const (.int .i64 1)))),
    .o 1 (.lt (some 45) (.mov (.tmp 63))),
    .g (.keep [1, 43, 44, 45])])))
def model_Check.b0 : C := .seq (.reg 0 [.o 0 (.lt (some 24) (.bin .lss (.tmp 23) (.tmp 22))),
    .g (.keep [1, 22, 23, 24])]) (.seq (.cond (.tmp 24) (.skip) (.exit 0)) (.seq (.block 1 (.seq (.reg 0 [.o 0 (.lt (some 25) (.mov (.tmp 23))),
    .o 1 (.lt (some 4) (.mov (.tmp 25))),
    .g (.keep [1, 4, 22, 23])]) (.seq (.reg 0 [.o 0 (.lt (some 26) (.fad (.tmp 1) 0)),
    .o 1 (.lt (some 27) (.ld false 1 (.tmp 26))),
    .o 2 (.lt (some 28) (.mov (.tmp 4))),
    .o 3 (.call (some 29) model_variable.id [(.tmp 27), (.tmp 28)]),
    .o 4 (.lt (some 5) (.mov (.tmp 29))),
    .g (.keep [1, 4, 5, 22, 23])]) (.seq (.reg 0 [.o 0 (.lt (some 30) (.mov (.tmp 5))),
    .o 1 (.lt (some 31) (.bin .neq (.tmp 30) (.const (.int .i64 0)))),
    .g (.keep [1, 4, 5, 22, 23, 31])]) (.cond (.tmp 31) (.seq (.reg 0 [.o 0 (.lt (some 32) (.mov (.tmp 4))),
    .o 1 (.lt (some 33) (.mov (.tmp 5))),
    .o 2 (.lt (some 2) (.mov (.tmp 32))),
    .o 3 (.lt (some 3) (.mov (.tmp 33))),
    .g (.keep [2, 3])]) (.ret)) (.skip)))))) (.reg 0 [.o 0 (.lt (some 34) (.bin .add (.tmp 23) (.const (.int .i64 1)))),
    .o 1 (.lt (some 23) (.mov (.tmp 34))),
    .g (.keep [1, 22, 23])])))
def model_Check.ir : C := .seq (.reg 1 [.o 0 (.box (some 1) 0 4 (.tmp 0)),
    .o 1 (.lt (some 2) (.mov (.const (.int .i64 0)))),
    .o 2 (.lt (some 3) (.mov (.const (.int .i64 0)))),
    .g (.keep [1])]) (.seq (.seq (.reg 0 [.o 0 (.lt (some 10) (.fad (.tmp 1) 0)),
    .o 1 (.lt (some 11) (.ld false 1 (.tmp 10))),
    .o 2 (.lt (some 12) (.lenSl (.tmp 11))),
    .o 3 (.lt (some 13) (.bin .eql (.tmp 12) (.const (.int .i64 0)))),
    .o 4 (.lt (some 14) (.mov (.tmp 13))),
    .gd 5 14 false (some 15) (.lt (some 15) (.fad (.tmp 1) 0)),
    .gd 6 14 false (some 16) (.lt (some 16) (.ld false 1 (.tmp 15))),
    .gd 7 14 false (some 17) (.lt (some 17) (.lenSl (.tmp 16))),
    .gd 8 14 false (some 18) (.lt (some 18) (.bin .gtr (.tmp 17) (.const (.int .i64 32)))),
    .o 9 (.lt (some 19) (.pick (.tmp 14) (.const (.bool true)) (.tmp 18))),
    .g (.keep [1, 19])]) (.cond (.tmp 19) (.seq (.reg 0 [.o 0 (.lt (some 2) (.mov (.const (.int .i64 0)))),
    .o 1 (.lt (some 3) (.mov (.const (.int .i64 40)))),
    .g (.keep [2, 3])]) (.ret)) (.skip))) (.seq (.seq (.reg 0 [.o 0 (.lt (some 20) (.fad (.tmp 1) 0)),
    .o 1 (.lt (some 21) (.ld false 1 (.tmp 20))),
    .o 2 (.lt (some 22) (.lenSl (.tmp 21))),
    .o 3 (.lt (some 23) (.mov (.const (.int .i64 0)))),
    .g (.keep [1, 22, 23])]) (.block 0 (.loop model_Check.b0))) (.seq (.seq (.reg 0 [.o 0 (.lt (some 35) (.fad (.tmp 1) 1)),
    .o 1 (.lt (some 36) (.ld false 1 (.tmp 35))),
    .o 2 (.lt (some 37) (.lenSl (.tmp 36))),
    .o 3 (.lt (some 38) (.bin .gtr (.tmp 37) (.const (.int .i64 64)))),
    .g (.keep [1, 38])]) (.cond (.tmp 38) (.seq (.reg 0 [.o 0 (.lt (some 39) (.fad (.tmp 1) 0)),
    .o 1 (.lt (some 40) (.ld false 1 (.tmp 39))),
    .o 2 (.lt (some 41) (.lenSl (.tmp 40))),
    .o 3 (.lt (some 2) (.mov (.tmp 41))),
    .o 4 (.lt (some 3) (.mov (.const (.int .i64 49)))),
    .g (.keep [2, 3])]) (.ret)) (.skip))) (.seq (.seq (.reg 0 [.o 0 (.lt (some 42) (.fad (.tmp 1) 1)),
    .o 1 (.lt (some 43) (.ld false 1 (.tmp 42))),
    .o 2 (.lt (some 44) (.lenSl (.tmp 43))),
    .o 3 (.lt (some 45) (.mov (.const (.int .i64 0)))),
    .g (.keep [1, 43, 44, 45])]) (.block 2 (.loop model_Check.b1))) (.seq (.seq (.reg 0 [.o 0 (.lt (some 64) (.ld true 4 (.tmp 1))),
    .o 1 (.call (some 65) model_goal.id [(.tmp 64)]),
    .o 2 (.lt (some 9) (.mov (.tmp 65))),
    .g (.keep [1, 9])]) (.seq (.reg 0 [.o 0 (.lt (some 66) (.mov (.tmp 9))),
    .o 1 (.lt (some 67) (.bin .neq (.tmp 66) (.const (.int .i64 0)))),
    .g (.keep [1, 9, 67])]) (.cond (.tmp 67) (.seq (.reg 0 [.o 0 (.lt (some 68) (.fad (.tmp 1) 0)),
    .o 1 (.lt (some 69) (.ld false 1 (.tmp 68))),
    .o 2 (.lt (some 70) (.lenSl (.tmp 69))),
    .o 3 (.lt (some 71) (.fad (.tmp 1) 1)),
    .o 4 (.lt (some 72) (.ld false 1 (.tmp 71))),
    .o 5 (.lt (some 73) (.lenSl (.tmp 72))),
    .o 6 (.lt (some 74) (.bin .add (.tmp 70) (.tmp 73))),
    .o 7 (.lt (some 75) (.mov (.tmp 9))),
    .o 8 (.lt (some 2) (.mov (.tmp 74))),
    .o 9 (.lt (some 3) (.mov (.tmp 75))),
    .g (.keep [2, 3])]) (.ret)) (.skip)))) (.seq (.reg 0 [.o 0 (.lt (some 2) (.mov (.const (.int .i64 0)))),
    .o 1 (.lt (some 3) (.mov (.const (.int .i64 0)))),
    .g (.keep [2, 3])]) (.ret)))))))
def model_Check.rs : List Rs := [.sl 2, .sl 3]
theorem model_Check.ok : isFn Try.prog model_Check.id 76 model_Check.ann model_Check.ir model_Check.rs := ⟨Try.f24, _, Try.func24, rfl, rfl, by kernel_rfl, by kernel_rfl⟩
-- hallmark/model.Product
def model_Product.ann : List (Nat × RA) := [(0, { gs := [], keep := some [1, 2] }), (1, { gs := [], keep := some [1, 2, 16] }), (2, { gs := [], keep := some [4, 5] }), (3, { gs := [], keep := some [1, 2, 6] }), (4, { gs := [], keep := some [1, 6, 18, 19, 20] }), (5, { gs := [], keep := some [1, 6, 18, 19, 20, 21] }), (6, { gs := [], keep := some [1, 6, 8, 18, 19, 20] }), (7, { gs := [], keep := some [1, 6, 9, 18, 19, 20] }), (8, { gs := [], keep := some [1, 6, 9, 18, 19, 20, 34] }), (9, { gs := [], keep := some [4, 5] }), (10, { gs := [], keep := some [1, 6, 18, 19, 20] }), (11, { gs := [], keep := some [1, 6, 18, 19, 20] }), (12, { gs := [], keep := some [4, 5] })]
def model_Product.b0 : C := .seq (.reg 0 [.o 0 (.lt (some 21) (.bin .lss (.tmp 20) (.tmp 19))),
    .g (.keep [1, 6, 18, 19, 20, 21])]) (.seq (.cond (.tmp 21) (.skip) (.exit 0)) (.seq (.block 1 (.seq (.reg 1 [.o 0 (.lt (some 22) (.ixS 3 (.tmp 18) (.tmp 20))),
    .o 1 (.lt (some 23) (.ld true 3 (.tmp 22))),
    .o 2 (.alloc (some 8) 0 3 [.a (.string ⟨#[]⟩), .a (.int .i64 0), .a (.int .i64 0)]),
    .o 3 (.store [] 3 (.tmp 8) (.tmp 23)),
    .g (.keep [1, 6, 8, 18, 19, 20])]) (.seq (.reg 0 [.o 0 (.lt (some 24) (.fad (.tmp 8) 2)),
    .o 1 (.lt (some 25) (.ld false 1 (.tmp 24))),
    .o 2 (.lt (some 26) (.fad (.tmp 8) 1)),
    .o 3 (.lt (some 27) (.ld false 1 (.tmp 26))),
    .o 4 (.lt (some 28) (.bin .sub (.tmp 25) (.tmp 27))),
    .o 5 (.lt (some 29) (.bin .add (.tmp 28) (.const (.int .i64 1)))),
    .o 6 (.lt (some 9) (.mov (.tmp 29))),
    .g (.keep [1, 6, 9, 18, 19, 20])]) (.seq (.seq (.reg 0 [.o 0 (.lt (some 30) (.mov (.tmp 6))),
    .o 1 (.lt (some 31) (.mov (.tmp 1))),
    .o 2 (.lt (some 32) (.mov (.tmp 9))),
    .o 3 (.lt (some 33) (.bin .quo (.tmp 31) (.tmp 32))),
    .o 4 (.lt (some 34) (.bin .gtr (.tmp 30) (.tmp 33))),
    .g (.keep [1, 6, 9, 18, 19, 20, 34])]) (.cond (.tmp 34) (.seq (.reg 0 [.o 0 (.lt (some 4) (.mov (.const (.int .i64 0)))),
    .o 1 (.lt (some 5) (.mov (.const (.bool false)))),
    .g (.keep [4, 5])]) (.ret)) (.skip))) (.reg 0 [.o 0 (.lt (some 35) (.mov (.tmp 6))),
    .o 1 (.lt (some 36) (.mov (.tmp 9))),
    .o 2 (.lt (some 37) (.bin .mul (.tmp 35) (.tmp 36))),
    .o 3 (.lt (some 6) (.mov (.tmp 37))),
    .g (.keep [1, 6, 18, 19, 20])]))))) (.reg 0 [.o 0 (.lt (some 38) (.bin .add (.tmp 20) (.const (.int .i64 1)))),
    .o 1 (.lt (some 20) (.mov (.tmp 38))),
    .g (.keep [1, 6, 18, 19, 20])])))
def model_Product.ir : C := .seq (.reg 1 [.o 0 (.box (some 2) 0 4 (.tmp 0)),
    .o 1 (.lt (some 4) (.mov (.const (.int .i64 0)))),
    .o 2 (.lt (some 5) (.mov (.const (.bool false)))),
    .g (.keep [1, 2])]) (.seq (.seq (.reg 0 [.o 0 (.lt (some 10) (.ld true 4 (.tmp 2))),
    .o 1 (.call (some 11) model_right.id [(.tmp 10)]),
    .o 2 (.lt (some 12) (.un .not (.tmp 11))),
    .o 3 (.lt (some 13) (.mov (.tmp 12))),
    .gd 4 13 false (some 14) (.lt (some 14) (.mov (.tmp 1))),
    .gd 5 13 false (some 15) (.lt (some 15) (.bin .lss (.tmp 14) (.const (.int .i64 1)))),
    .o 6 (.lt (some 16) (.pick (.tmp 13) (.const (.bool true)) (.tmp 15))),
    .g (.keep [1, 2, 16])]) (.cond (.tmp 16) (.seq (.reg 0 [.o 0 (.lt (some 4) (.mov (.const (.int .i64 0)))),
    .o 1 (.lt (some 5) (.mov (.const (.bool false)))),
    .g (.keep [4, 5])]) (.ret)) (.skip))) (.seq (.reg 0 [.o 0 (.lt (some 6) (.mov (.const (.int .i64 1)))),
    .g (.keep [1, 2, 6])]) (.seq (.seq (.reg 0 [.o 0 (.lt (some 17) (.fad (.tmp 2) 0)),
    .o 1 (.lt (some 18) (.ld false 1 (.tmp 17))),
    .o 2 (.lt (some 19) (.lenSl (.tmp 18))),
    .o 3 (.lt (some 20) (.mov (.const (.int .i64 0)))),
    .g (.keep [1, 6, 18, 19, 20])]) (.block 0 (.loop model_Product.b0))) (.seq (.reg 0 [.o 0 (.lt (some 39) (.mov (.tmp 6))),
    .o 1 (.lt (some 4) (.mov (.tmp 39))),
    .o 2 (.lt (some 5) (.mov (.const (.bool true)))),
    .g (.keep [4, 5])]) (.ret)))))
def model_Product.rs : List Rs := [.sl 4, .sl 5]
theorem model_Product.ok : isFn Try.prog model_Product.id 40 model_Product.ann model_Product.ir model_Product.rs := ⟨Try.f25, _, Try.func25, rfl, rfl, by kernel_rfl, by kernel_rfl⟩
-- hallmark/model.right
def model_right.ann : List (Nat × RA) := [(0, { gs := [], keep := some [1] }), (1, { gs := [], keep := some [4] }), (2, { gs := [], keep := some [2] })]
def model_right.ir : C := .seq (.reg 1 [.o 0 (.box (some 1) 0 4 (.tmp 0)),
    .o 1 (.lt (some 2) (.mov (.const (.bool false)))),
    .g (.keep [1])]) (.seq (.reg 0 [.o 0 (.lt (some 6) (.ld true 4 (.tmp 1))),
    .o 1 (.call (some 7) model_Check.id [(.tmp 6)]),
    .o 2 (.lt (some 5) (.mov (.tmp 7))),
    .o 3 (.lt (some 8) (.ext (.tmp 5) 0)),
    .o 4 (.lt (some 9) (.ext (.tmp 5) 1)),
    .o 5 (.lt (some 3) (.mov (.tmp 8))),
    .o 6 (.lt (some 4) (.mov (.tmp 9))),
    .g (.keep [4])]) (.seq (.reg 0 [.o 0 (.lt (some 10) (.mov (.tmp 4))),
    .o 1 (.lt (some 11) (.bin .eql (.tmp 10) (.const (.int .i64 0)))),
    .o 2 (.lt (some 2) (.mov (.tmp 11))),
    .g (.keep [2])]) (.ret)))
def model_right.rs : List Rs := [.sl 2]
theorem model_right.ok : isFn Try.prog model_right.id 12 model_right.ann model_right.ir model_right.rs := ⟨Try.f26, _, Try.func26, rfl, rfl, by kernel_rfl, by kernel_rfl⟩
-- hallmark/model.sized
def model_sized.ann : List (Nat × RA) := [(0, { gs := [], keep := some [0] }), (1, { gs := [], keep := some [2] })]
def model_sized.ir : C := .seq (.reg 0 [.o 0 (.lt (some 2) (.mov (.const (.bool false)))),
    .g (.keep [0])]) (.seq (.reg 0 [.o 0 (.lt (some 3) (.mov (.tmp 0))),
    .o 1 (.call (some 4) model_great.id [(.tmp 3)]),
    .o 2 (.lt (some 5) (.un .not (.tmp 4))),
    .o 3 (.lt (some 2) (.mov (.tmp 5))),
    .g (.keep [2])]) (.ret))
def model_sized.rs : List Rs := [.sl 2]
theorem model_sized.ok : isFn Try.prog model_sized.id 6 model_sized.ann model_sized.ir model_sized.rs := ⟨Try.f27, _, Try.func27, rfl, rfl, by kernel_rfl, by kernel_rfl⟩
-- hallmark/model.sum
def model_sum.ann : List (Nat × RA) := [(0, { gs := [], keep := some [0, 1] }), (1, { gs := [], keep := some [0, 1, 5] }), (2, { gs := [], keep := some [1, 5, 8, 9, 10] }), (3, { gs := [], keep := some [1, 5, 8, 9, 10, 11] }), (4, { gs := [], keep := some [1, 5, 7, 8, 9, 10] }), (5, { gs := [], keep := some [1, 5, 8, 9, 10], ord := [0, 1, 2, 3, 4, 5, 6, 7, 8, 9] }), (6, { gs := [], keep := some [1, 5, 8, 9, 10] }), (7, { gs := [], keep := some [4] })]
def model_sum.b0 : C := .seq (.reg 0 [.o 0 (.lt (some 11) (.bin .lss (.tmp 10) (.tmp 9))),
    .g (.keep [1, 5, 8, 9, 10, 11])]) (.seq (.cond (.tmp 11) (.skip) (.exit 0)) (.seq (.block 1 (.seq (.reg 1 [.o 0 (.lt (some 12) (.ixS 2 (.tmp 8) (.tmp 10))),
    .o 1 (.lt (some 13) (.ld true 2 (.tmp 12))),
    .o 2 (.alloc (some 7) 0 2 [.a (.int .i64 0), .a (.int .i64 0)]),
    .o 3 (.store [] 2 (.tmp 7) (.tmp 13)),
    .g (.keep [1, 5, 7, 8, 9, 10])]) (.reg 0 [.o 0 (.lt (some 14) (.mov (.tmp 5))),
    .o 1 (.lt (some 15) (.fad (.tmp 7) 0)),
    .o 2 (.lt (some 16) (.ld false 1 (.tmp 15))),
    .o 3 (.lt (some 17) (.mov (.tmp 1))),
    .o 4 (.lt (some 18) (.fad (.tmp 7) 1)),
    .o 5 (.lt (some 19) (.ld false 1 (.tmp 18))),
    .o 6 (.callv (some 20) (.tmp 17) [(.tmp 19)]),
    .o 7 (.lt (some 21) (.bin .mul (.tmp 16) (.tmp 20))),
    .o 8 (.lt (some 22) (.bin .add (.tmp 14) (.tmp 21))),
    .o 9 (.lt (some 5) (.mov (.tmp 22))),
    .g (.keep [1, 5, 8, 9, 10])]))) (.reg 0 [.o 0 (.lt (some 23) (.bin .add (.tmp 10) (.const (.int .i64 1)))),
    .o 1 (.lt (some 10) (.mov (.tmp 23))),
    .g (.keep [1, 5, 8, 9, 10])])))
def model_sum.ir : C := .seq (.reg 0 [.o 0 (.lt (some 4) (.mov (.const (.int .i64 0)))),
    .g (.keep [0, 1])]) (.seq (.reg 0 [.o 0 (.lt (some 5) (.mov (.const (.int .i64 0)))),
    .g (.keep [0, 1, 5])]) (.seq (.seq (.reg 0 [.o 0 (.lt (some 8) (.mov (.tmp 0))),
    .o 1 (.lt (some 9) (.lenSl (.tmp 8))),
    .o 2 (.lt (some 10) (.mov (.const (.int .i64 0)))),
    .g (.keep [1, 5, 8, 9, 10])]) (.block 0 (.loop model_sum.b0))) (.seq (.reg 0 [.o 0 (.lt (some 24) (.mov (.tmp 5))),
    .o 1 (.lt (some 4) (.mov (.tmp 24))),
    .g (.keep [4])]) (.ret))))
def model_sum.rs : List Rs := [.sl 4]
theorem model_sum.ok : isFn Try.prog model_sum.id 25 model_sum.ann model_sum.ir model_sum.rs := ⟨Try.f28, _, Try.func28, rfl, rfl, by kernel_rfl, by kernel_rfl⟩
-- hallmark/model.Worth$1
def model_Worth_1.ann : List (Nat × RA) := [(0, { gs := [], keep := some [0, 1] }), (1, { gs := [], keep := some [3] })]
def model_Worth_1.ir : C := .seq (.reg 0 [.o 0 (.lt (some 3) (.mov (.const (.int .i64 0)))),
    .g (.keep [0, 1])]) (.seq (.reg 0 [.o 0 (.lt (some 4) (.ld false 1 (.tmp 1))),
    .o 1 (.lt (some 5) (.mov (.tmp 0))),
    .o 2 (.lt (some 6) (.ixS 1 (.tmp 4) (.tmp 5))),
    .o 3 (.lt (some 7) (.ld false 1 (.tmp 6))),
    .o 4 (.lt (some 3) (.mov (.tmp 7))),
    .g (.keep [3])]) (.ret))
def model_Worth_1.rs : List Rs := [.sl 3]
theorem model_Worth_1.ok : isFn Try.prog model_Worth_1.id 8 model_Worth_1.ann model_Worth_1.ir model_Worth_1.rs := ⟨Try.f29, _, Try.func29, rfl, rfl, by kernel_rfl, by kernel_rfl⟩
-- hallmark/hallmarklaw4.place
def hallmarklaw4_place.ann : List (Nat × RA) := [(0, { gs := [], keep := some [0, 1] }), (1, { gs := [], keep := some [0, 1] }), (2, { gs := [], keep := some [0, 1, 9] }), (3, { gs := [], keep := some [0] }), (4, { gs := [], keep := some [4] })]
def hallmarklaw4_place.ir : C := .seq (.reg 0 [.o 0 (.lt (some 4) (.mov (.const (.int .i64 0)))),
    .g (.keep [0, 1])]) (.seq (.reg 0 [.o 0 (.lt (some 5) (.mov (.tmp 0))),
    .o 1 (.lt (some 6) (.mov (.tmp 1))),
    .o 2 (.lt (some 7) (.bin .rem (.tmp 5) (.tmp 6))),
    .o 3 (.lt (some 0) (.mov (.tmp 7))),
    .g (.keep [0, 1])]) (.seq (.seq (.reg 0 [.o 0 (.lt (some 8) (.mov (.tmp 0))),
    .o 1 (.lt (some 9) (.bin .lss (.tmp 8) (.const (.int .i64 0)))),
    .g (.keep [0, 1, 9])]) (.cond (.tmp 9) (.reg 0 [.o 0 (.lt (some 10) (.mov (.tmp 0))),
    .o 1 (.lt (some 11) (.mov (.tmp 1))),
    .o 2 (.lt (some 12) (.bin .add (.tmp 10) (.tmp 11))),
    .o 3 (.lt (some 0) (.mov (.tmp 12))),
    .g (.keep [0])]) (.skip))) (.seq (.reg 0 [.o 0 (.lt (some 13) (.mov (.tmp 0))),
    .o 1 (.lt (some 4) (.mov (.tmp 13))),
    .g (.keep [4])]) (.ret))))
def hallmarklaw4_place.rs : List Rs := [.sl 4]
theorem hallmarklaw4_place.ok : isFn Try.prog hallmarklaw4_place.id 14 hallmarklaw4_place.ann hallmarklaw4_place.ir hallmarklaw4_place.rs := ⟨Try.f30, _, Try.func30, rfl, rfl, by kernel_rfl, by kernel_rfl⟩
-- hallmark/model.ends
def model_ends.ann : List (Nat × RA) := [(0, { gs := [], keep := some [1, 2] }), (1, { gs := [], keep := some [1, 2, 11] }), (2, { gs := [], keep := some [4] }), (3, { gs := [], keep := some [1, 2, 5] }), (4, { gs := [], keep := some [1, 2, 5, 13, 14, 15] }), (5, { gs := [], keep := some [1, 2, 5, 13, 14, 15, 16] }), (6, { gs := [], keep := some [1, 2, 5, 7, 13, 14, 15] }), (7, { gs := [], keep := some [1, 2, 5, 7, 8, 13, 14, 15] }), (8, { gs := [], keep := some [1, 2, 5, 7, 8, 13, 14, 15, 29] }), (9, { gs := [], keep := some [1, 2, 5, 13, 14, 15] }), (10, { gs := [], keep := some [1, 2, 5, 13, 14, 15] }), (11, { gs := [], keep := some [1, 2, 5, 13, 14, 15] }), (12, { gs := [], keep := some [4] })]
def model_ends.b0 : C := .seq (.reg 0 [.o 0 (.lt (some 16) (.bin .lss (.tmp 15) (.tmp 14))),
    .g (.keep [1, 2, 5, 13, 14, 15, 16])]) (.seq (.cond (.tmp 16) (.skip) (.exit 0)) (.seq (.block 1 (.seq (.reg 1 [.o 0 (.lt (some 17) (.ixS 2 (.tmp 13) (.tmp 15))),
    .o 1 (.lt (some 18) (.ld true 2 (.tmp 17))),
    .o 2 (.alloc (some 7) 0 2 [.a (.int .i64 0), .a (.int .i64 0)]),
    .o 3 (.store [] 2 (.tmp 7) (.tmp 18)),
    .g (.keep [1, 2, 5, 7, 13, 14, 15])]) (.seq (.reg 1 [.o 0 (.lt (some 19) (.fad (.tmp 2) 0)),
    .o 1 (.lt (some 20) (.ld false 1 (.tmp 19))),
    .o 2 (.lt (some 21) (.fad (.tmp 7) 1)),
    .o 3 (.lt (some 22) (.ld false 1 (.tmp 21))),
    .o 4 (.lt (some 23) (.ixS 3 (.tmp 20) (.tmp 22))),
    .o 5 (.lt (some 24) (.ld true 3 (.tmp 23))),
    .o 6 (.alloc (some 8) 0 3 [.a (.string ⟨#[]⟩), .a (.int .i64 0), .a (.int .i64 0)]),
    .o 7 (.store [] 3 (.tmp 8) (.tmp 24)),
    .g (.keep [1, 2, 5, 7, 8, 13, 14, 15])]) (.seq (.reg 0 [.o 0 (.lt (some 25) (.fad (.tmp 7) 0)),
    .o 1 (.lt (some 26) (.ld false 1 (.tmp 25))),
    .o 2 (.lt (some 27) (.bin .gtr (.tmp 26) (.const (.int .i64 0)))),
    .o 3 (.lt (some 28) (.mov (.tmp 1))),
    .o 4 (.lt (some 29) (.eqB false (.tmp 27) (.tmp 28))),
    .g (.keep [1, 2, 5, 7, 8, 13, 14, 15, 29])]) (.cond (.tmp 29) (.reg 0 [.o 0 (.lt (some 30) (.mov (.tmp 5))),
    .o 1 (.lt (some 31) (.fad (.tmp 7) 0)),
    .o 2 (.lt (some 32) (.ld false 1 (.tmp 31))),
    .o 3 (.lt (some 33) (.fad (.tmp 8) 1)),
    .o 4 (.lt (some 34) (.ld false 1 (.tmp 33))),
    .o 5 (.lt (some 35) (.bin .mul (.tmp 32) (.tmp 34))),
    .o 6 (.lt (some 36) (.bin .add (.tmp 30) (.tmp 35))),
    .o 7 (.lt (some 5) (.mov (.tmp 36))),
    .g (.keep [1, 2, 5, 13, 14, 15])]) (.reg 0 [.o 0 (.lt (some 37) (.mov (.tmp 5))),
    .o 1 (.lt (some 38) (.fad (.tmp 7) 0)),
    .o 2 (.lt (some 39) (.ld false 1 (.tmp 38))),
    .o 3 (.lt (some 40) (.fad (.tmp 8) 2)),
    .o 4 (.lt (some 41) (.ld false 1 (.tmp 40))),
    .o 5 (.lt (some 42) (.bin .mul (.tmp 39) (.tmp 41))),
    .o 6 (.lt (some 43) (.bin .add (.tmp 37) (.tmp 42))),
    .o 7 (.lt (some 5) (.mov (.tmp 43))),
    .g (.keep [1, 2, 5, 13, 14, 15])])))))) (.reg 0 [.o 0 (.lt (some 44) (.bin .add (.tmp 15) (.const (.int .i64 1)))),
    .o 1 (.lt (some 15) (.mov (.tmp 44))),
    .g (.keep [1, 2, 5, 13, 14, 15])])))
def model_ends.ir : C := .seq (.reg 1 [.o 0 (.box (some 2) 0 4 (.tmp 0)),
    .o 1 (.lt (some 4) (.mov (.const (.int .i64 0)))),
    .g (.keep [1, 2])]) (.seq (.seq (.reg 0 [.o 0 (.lt (some 9) (.ld true 4 (.tmp 2))),
    .o 1 (.call (some 10) model_right.id [(.tmp 9)]),
    .o 2 (.lt (some 11) (.un .not (.tmp 10))),
    .g (.keep [1, 2, 11])]) (.cond (.tmp 11) (.seq (.reg 0 [.o 0 (.lt (some 4) (.mov (.const (.int .i64 0)))),
    .g (.keep [4])]) (.ret)) (.skip))) (.seq (.reg 0 [.o 0 (.lt (some 5) (.mov (.const (.int .i64 0)))),
    .g (.keep [1, 2, 5])]) (.seq (.seq (.reg 0 [.o 0 (.lt (some 12) (.fad (.tmp 2) 3)),
    .o 1 (.lt (some 13) (.ld false 1 (.tmp 12))),
    .o 2 (.lt (some 14) (.lenSl (.tmp 13))),
    .o 3 (.lt (some 15) (.mov (.const (.int .i64 0)))),
    .g (.keep [1, 2, 5, 13, 14, 15])]) (.block 0 (.loop model_ends.b0))) (.seq (.reg 0 [.o 0 (.lt (some 45) (.mov (.tmp 5))),
    .o 1 (.lt (some 4) (.mov (.tmp 45))),
    .g (.keep [4])]) (.ret)))))
def model_ends.rs : List Rs := [.sl 4]
theorem model_ends.ok : isFn Try.prog model_ends.id 46 model_ends.ann model_ends.ir model_ends.rs := ⟨Try.f31, _, Try.func31, rfl, rfl, by kernel_rfl, by kernel_rfl⟩
-- hallmark/model.con
def model_con.ann : List (Nat × RA) := [(0, { gs := [], keep := some [2, 3] }), (1, { gs := [], keep := some [2, 3, 5, 6], ord := [1, 2, 0, 3, 4, 5, 6, 7, 8, 9] }), (2, { gs := [], keep := some [2, 3, 5, 32] }), (3, { gs := [], keep := some [4] }), (4, { gs := [], keep := some [2, 3, 5, 7, 8] }), (5, { gs := [], keep := some [2, 5, 7, 8, 9] }), (6, { gs := [], keep := some [2, 5, 7, 8, 9, 41] }), (7, { gs := [], keep := some [4] }), (8, { gs := [], keep := some [2, 5, 7, 8, 9, 45] }), (9, { gs := [], keep := some [2, 5, 7, 8, 9, 45] }), (10, { gs := [], keep := some [2, 5, 7, 8, 9, 45] }), (11, { gs := [], keep := some [2, 5, 7, 8, 9, 45] }), (12, { gs := [], keep := some [4] }), (13, { gs := [], keep := some [2, 5, 8, 9, 70] }), (14, { gs := [], keep := some [2, 5, 8, 9, 70], aps := [(6, [1000001])] }), (15, { gs := [], keep := some [2, 8, 9, 70], aps := [(6, [1000001])] }), (16, { gs := [], keep := some [2, 8, 70], aps := [(3, [1000001])] }), (17, { gs := [], keep := some [4] }), (18, { gs := [], keep := some [2, 92] }), (19, { gs := [], keep := some [4] }), (20, { gs := [], keep := some [2, 94] }), (21, { gs := [], keep := some [2, 94] }), (22, { gs := [], keep := some [2, 94] }), (23, { gs := [], keep := some [94], aps := [(2, [1000001])] }), (24, { gs := [], keep := some [4] }), (25, { gs := [], keep := some [4] })]
def model_con.ir : C := .seq (.reg 2 [.o 0 (.box (some 2) 0 10 (.tmp 0)),
    .o 1 (.box (some 3) 1 1 (.tmp 1)),
    .o 2 (.lt (some 4) (.mov (.const (.int .i64 0)))),
    .g (.keep [2, 3])]) (.seq (.reg 1 [.o 1 (.lt (some 12) (.fad (.tmp 2) 0)),
    .o 2 (.lt (some 13) (.ld false 1 (.tmp 12))),
    .o 0 (.call (some 11) model_kinds.id []),
    .o 3 (.lt (some 14) (.lkp true .i64 (.agg [.a (.bool false), .a (.bool false), .a (.bool false), .a (.bool false), .a (.bool false), .a (.bool false), .a (.bool false), .a (.bool false), .a (.bool false), .a (.nilFunc)]) (.tmp 11) (.tmp 13))),
    .o 4 (.lt (some 10) (.mov (.tmp 14))),
    .o 5 (.lt (some 15) (.ext (.tmp 10) 0)),
    .o 6 (.lt (some 16) (.ext (.tmp 10) 1)),
    .o 7 (.alloc (some 5) 0 10 [.a (.bool false), .a (.bool false), .a (.bool false), .a (.bool false), .a (.bool false), .a (.bool false), .a (.bool false), .a (.bool false), .a (.bool false), .a (.nilFunc)]),
    .o 8 (.store [] 10 (.tmp 5) (.tmp 15)),
    .o 9 (.lt (some 6) (.mov (.tmp 16))),
    .g (.keep [2, 3, 5, 6])]) (.seq (.seq (.reg 0 [.o 0 (.lt (some 17) (.mov (.tmp 6))),
    .o 1 (.lt (some 18) (.un .not (.tmp 17))),
    .o 2 (.lt (some 19) (.mov (.tmp 18))),
    .gd 3 19 false (some 20) (.lt (some 20) (.fad (.tmp 5) 7)),
    .gd 4 19 false (some 21) (.lt (some 21) (.ld false 1 (.tmp 20))),
    .gd 5 19 false (some 22) (.lt (some 22) (.mov (.tmp 21))),
    .gd 6 22 true (some 23) (.lt (some 23) (.fad (.tmp 2) 1)),
    .gd 7 22 true (some 24) (.lt (some 24) (.ld false 1 (.tmp 23))),
    .gd 8 22 true (some 25) (.lt (some 25) (.bin .lss (.tmp 24) (.const (.int .i64 1)))),
    .gd 9 22 true (some 26) (.lt (some 26) (.mov (.tmp 25))),
    .gd 10 26 false (some 27) (.lt (some 27) (.fad (.tmp 2) 1)),
    .gd 11 26 false (some 28) (.lt (some 28) (.ld false 1 (.tmp 27))),
    .gd 12 26 false (some 29) (.lt (some 29) (.bin .gtr (.tmp 28) (.const (.int .i64 3)))),
    .gd 13 22 true (some 30) (.lt (some 30) (.pick (.tmp 26) (.const (.bool true)) (.tmp 29))),
    .gd 14 19 false (some 31) (.lt (some 31) (.pick (.tmp 22) (.tmp 30) (.const (.bool false)))),
    .o 15 (.lt (some 32) (.pick (.tmp 19) (.const (.bool true)) (.tmp 31))),
    .g (.keep [2, 3, 5, 32])]) (.cond (.tmp 32) (.seq (.reg 0 [.o 0 (.lt (some 4) (.mov (.const (.int .i64 43)))),
    .g (.keep [4])]) (.ret)) (.skip))) (.seq (.reg 0 [.o 0 (.lt (some 34) (.fad (.tmp 2) 2)),
    .o 1 (.lt (some 35) (.ld false 1 (.tmp 34))),
    .o 2 (.lt (some 36) (.ld false 1 (.tmp 3))),
    .o 3 (.call (some 37) model_terms.id [(.tmp 35), (.tmp 36)]),
    .o 4 (.lt (some 33) (.mov (.tmp 37))),
    .o 5 (.lt (some 38) (.ext (.tmp 33) 0)),
    .o 6 (.lt (some 39) (.ext (.tmp 33) 1)),
    .o 7 (.lt (some 7) (.mov (.tmp 38))),
    .o 8 (.lt (some 8) (.mov (.tmp 39))),
    .g (.keep [2, 3, 5, 7, 8])]) (.seq (.reg 0 [.o 0 (.lt (some 40) (.mkfn (.func model_con_1.id) [] [(.tmp 3)])),
    .o 1 (.lt (some 9) (.mov (.tmp 40))),
    .g (.keep [2, 5, 7, 8, 9])]) (.seq (.block 0 (.seq (.reg 0 [.o 0 (.lt (some 42) (.ld true 10 (.tmp 2))),
    .o 1 (.lt (some 43) (.ld true 10 (.tmp 5))),
    .o 2 (.call (some 44) model_field.id [(.tmp 42), (.tmp 43)]),
    .o 3 (.lt (some 41) (.mov (.tmp 44))),
    .g (.keep [2, 5, 7, 8, 9, 41])]) (.cond (.tmp 41) (.seq (.reg 0 [.o 0 (.lt (some 4) (.mov (.const (.int .i64 48)))),
    .g (.keep [4])]) (.ret)) (.seq (.seq (.reg 0 [.o 0 (.lt (some 46) (.fad (.tmp 5) 0)),
    .o 1 (.lt (some 47) (.ld false 1 (.tmp 46))),
    .o 2 (.lt (some 48) (.fad (.tmp 2) 2)),
    .o 3 (.lt (some 49) (.ld false 1 (.tmp 48))),
    .o 4 (.lt (some 50) (.lenSl (.tmp 49))),
    .o 5 (.call (some 51) model_counts.id [(.tmp 47), (.tmp 50)]),
    .o 6 (.lt (some 52) (.un .not (.tmp 51))),
    .o 7 (.lt (some 45) (.mov (.tmp 52))),
    .g (.keep [2, 5, 7, 8, 9, 45])]) (.cond (.tmp 45) (.skip) (.seq (.reg 0 [.o 0 (.lt (some 53) (.fad (.tmp 5) 1)),
    .o 1 (.lt (some 54) (.ld false 1 (.tmp 53))),
    .o 2 (.lt (some 55) (.fad (.tmp 2) 7)),
    .o 3 (.lt (some 56) (.ld false 1 (.tmp 55))),
    .o 4 (.lt (some 57) (.lenSl (.tmp 56))),
    .o 5 (.call (some 58) model_counts.id [(.tmp 54), (.tmp 57)]),
    .o 6 (.lt (some 59) (.un .not (.tmp 58))),
    .o 7 (.lt (some 45) (.mov (.tmp 59))),
    .g (.keep [2, 5, 7, 8, 9, 45])]) (.cond (.tmp 45) (.skip) (.seq (.reg 0 [.o 0 (.lt (some 60) (.fad (.tmp 5) 2)),
    .o 1 (.lt (some 61) (.ld false 1 (.tmp 60))),
    .o 2 (.lt (some 62) (.fad (.tmp 2) 8)),
    .o 3 (.lt (some 63) (.ld false 1 (.tmp 62))),
    .o 4 (.lt (some 64) (.lenSl (.tmp 63))),
    .o 5 (.call (some 65) model_counts.id [(.tmp 61), (.tmp 64)]),
    .o 6 (.lt (some 66) (.un .not (.tmp 65))),
    .o 7 (.lt (some 45) (.mov (.tmp 66))),
    .g (.keep [2, 5, 7, 8, 9, 45])]) (.cond (.tmp 45) (.skip) (.reg 0 [.o 0 (.lt (some 67) (.ld true 10 (.tmp 2))),
    .o 1 (.lt (some 68) (.ld true 10 (.tmp 5))),
    .o 2 (.call (some 69) model_wide.id [(.tmp 67), (.tmp 68)]),
    .o 3 (.lt (some 45) (.mov (.tmp 69))),
    .g (.keep [2, 5, 7, 8, 9, 45])]))))))) (.cond (.tmp 45) (.seq (.reg 0 [.o 0 (.lt (some 4) (.mov (.const (.int .i64 47)))),
    .g (.keep [4])]) (.ret)) (.seq (.seq (.reg 0 [.o 0 (.lt (some 71) (.mov (.tmp 7))),
    .o 1 (.lt (some 70) (.mov (.tmp 71))),
    .g (.keep [2, 5, 8, 9, 70])]) (.cond (.tmp 70) (.skip) (.seq (.reg 0 [.o 0 (.lt (some 72) (.fad (.tmp 5) 4)),
    .o 1 (.lt (some 73) (.ld false 1 (.tmp 72))),
    .o 2 (.lt (some 74) (.mov (.tmp 73))),
    .gd 3 74 true (some 75) (.lt (some 75) (.mov (.tmp 9))),
    .gd 4 74 true (some 76) (.lt (some 76) (.fad (.tmp 2) 5)),
    .gd 5 74 true (some 77) (.lt (some 77) (.ld false 1 (.tmp 76))),
    .gd 6 74 true (some 78) (.callb (some 78) (.tmp 75) [(.tmp 77)]),
    .o 7 (.lt (some 79) (.pick (.tmp 74) (.tmp 78) (.const (.bool false)))),
    .o 8 (.lt (some 70) (.mov (.tmp 79))),
    .g (.keep [2, 5, 8, 9, 70])]) (.cond (.tmp 70) (.skip) (.seq (.reg 0 [.o 0 (.lt (some 80) (.fad (.tmp 5) 5)),
    .o 1 (.lt (some 81) (.ld false 1 (.tmp 80))),
    .o 2 (.lt (some 82) (.mov (.tmp 81))),
    .gd 3 82 true (some 83) (.lt (some 83) (.mov (.tmp 9))),
    .gd 4 82 true (some 84) (.lt (some 84) (.fad (.tmp 2) 6)),
    .gd 5 82 true (some 85) (.lt (some 85) (.ld false 1 (.tmp 84))),
    .gd 6 82 true (some 86) (.callb (some 86) (.tmp 83) [(.tmp 85)]),
    .o 7 (.lt (some 87) (.pick (.tmp 82) (.tmp 86) (.const (.bool false)))),
    .o 8 (.lt (some 70) (.mov (.tmp 87))),
    .g (.keep [2, 8, 9, 70])]) (.cond (.tmp 70) (.skip) (.reg 0 [.o 0 (.lt (some 88) (.fad (.tmp 2) 7)),
    .o 1 (.lt (some 89) (.ld false 1 (.tmp 88))),
    .o 2 (.lt (some 90) (.mov (.tmp 9))),
    .o 3 (.callb (some 91) (.func slices_ContainsFunc_Lint_int.id) [(.tmp 89), (.tmp 90)]),
    .o 4 (.lt (some 70) (.mov (.tmp 91))),
    .g (.keep [2, 8, 70])]))))))) (.cond (.tmp 70) (.seq (.reg 0 [.o 0 (.lt (some 4) (.mov (.const (.int .i64 44)))),
    .g (.keep [4])]) (.ret)) (.seq (.reg 0 [.o 0 (.lt (some 93) (.mov (.tmp 8))),
    .o 1 (.lt (some 92) (.mov (.tmp 93))),
    .g (.keep [2, 92])]) (.cond (.tmp 92) (.seq (.reg 0 [.o 0 (.lt (some 4) (.mov (.const (.int .i64 45)))),
    .g (.keep [4])]) (.ret)) (.seq (.seq (.reg 0 [.o 0 (.lt (some 95) (.fad (.tmp 2) 3)),
    .o 1 (.lt (some 96) (.ld false 1 (.tmp 95))),
    .o 2 (.call (some 97) model_within.id [(.tmp 96), (.const (.int .i64 1000000000))]),
    .o 3 (.lt (some 98) (.un .not (.tmp 97))),
    .o 4 (.lt (some 94) (.mov (.tmp 98))),
    .g (.keep [2, 94])]) (.cond (.tmp 94) (.skip) (.seq (.reg 0 [.o 0 (.lt (some 99) (.fad (.tmp 2) 4)),
    .o 1 (.lt (some 100) (.ld false 1 (.tmp 99))),
    .o 2 (.call (some 101) model_within.id [(.tmp 100), (.const (.int .i64 1000000000))]),
    .o 3 (.lt (some 102) (.un .not (.tmp 101))),
    .o 4 (.lt (some 94) (.mov (.tmp 102))),
    .g (.keep [2, 94])]) (.cond (.tmp 94) (.skip) (.seq (.reg 0 [.o 0 (.lt (some 103) (.fad (.tmp 2) 8)),
    .o 1 (.lt (some 104) (.ld false 1 (.tmp 103))),
    .o 2 (.call (some 105) model_great.id [(.tmp 104)]),
    .o 3 (.lt (some 94) (.mov (.tmp 105))),
    .g (.keep [2, 94])]) (.cond (.tmp 94) (.skip) (.reg 0 [.o 0 (.lt (some 106) (.fad (.tmp 2) 9)),
    .o 1 (.lt (some 107) (.ld false 1 (.tmp 106))),
    .o 2 (.callb (some 108) (.func slices_ContainsFunc_LLint_Lint.id) [(.tmp 107), (.func model_great.id)]),
    .o 3 (.lt (some 94) (.mov (.tmp 108))),
    .g (.keep [94])]))))))) (.cond (.tmp 94) (.seq (.reg 0 [.o 0 (.lt (some 4) (.mov (.const (.int .i64 46)))),
    .g (.keep [4])]) (.ret)) (.skip)))))))))))) (.seq (.reg 0 [.o 0 (.lt (some 4) (.mov (.const (.int .i64 0)))),
    .g (.keep [4])]) (.ret)))))))
def model_con.rs : List Rs := [.sl 4]
theorem model_con.ok : isFn Try.prog model_con.id 109 model_con.ann model_con.ir model_con.rs := ⟨Try.f32, _, Try.func32, rfl, rfl, by kernel_rfl, by kernel_rfl⟩
-- hallmark/model.kinds
def model_kinds.ann : List (Nat × RA) := [(0, { gs := [], keep := some [] }), (1, { gs := [], keep := some [0] })]
def model_kinds.ir : C := .seq (.reg 0 [.o 0 (.lt (some 0) (.mov (.const (.map none)))),
    .g (.keep [])]) (.seq (.reg 1 [.o 0 (.mkm (some 1) 0),
    .o 1 (.lt (some 2) (.build [.a (.bool false), .a (.bool false), .a (.bool false), .a (.bool false), .a (.bool false), .a (.bool false), .a (.bool false), .a (.bool false), .a (.bool false), .a (.nilFunc)] [(0, 1, (.const (.bool true))), (6, 1, (.const (.bool true))), (7, 1, (.const (.bool true))), (9, 1, (.func model_lin.id))])),
    .o 2 (.mup [] .i64 (.tmp 1) (.const (.int .i64 1)) (.tmp 2)),
    .o 3 (.lt (some 3) (.build [.a (.bool false), .a (.bool false), .a (.bool false), .a (.bool false), .a (.bool false), .a (.bool false), .a (.bool false), .a (.bool false), .a (.bool false), .a (.nilFunc)] [(4, 1, (.const (.bool true))), (5, 1, (.const (.bool true))), (6, 1, (.const (.bool true))), (9, 1, (.func model_kinds_1.id))])),
    .o 4 (.mup [] .i64 (.tmp 1) (.const (.int .i64 2)) (.tmp 3)),
    .o 5 (.lt (some 4) (.build [.a (.bool false), .a (.bool false), .a (.bool false), .a (.bool false), .a (.bool false), .a (.bool false), .a (.bool false), .a (.bool false), .a (.bool false), .a (.nilFunc)] [(1, 1, (.const (.bool true))), (9, 1, (.func model_allDiff.id))])),
    .o 6 (.mup [] .i64 (.tmp 1) (.const (.int .i64 3)) (.tmp 4)),
    .o 7 (.lt (some 5) (.build [.a (.bool false), .a (.bool false), .a (.bool false), .a (.bool false), .a (.bool false), .a (.bool false), .a (.bool false), .a (.bool false), .a (.bool false), .a (.nilFunc)] [(4, 1, (.const (.bool true))), (5, 1, (.const (.bool true))), (2, 1, (.const (.bool true))), (9, 1, (.func model_element.id))])),
    .o 8 (.mup [] .i64 (.tmp 1) (.const (.int .i64 4)) (.tmp 5)),
    .o 9 (.lt (some 6) (.build [.a (.bool false), .a (.bool false), .a (.bool false), .a (.bool false), .a (.bool false), .a (.bool false), .a (.bool false), .a (.bool false), .a (.bool false), .a (.nilFunc)] [(5, 1, (.const (.bool true))), (1, 1, (.const (.bool true))), (9, 1, (.func model_kinds_2.id))])),
    .o 10 (.mup [] .i64 (.tmp 1) (.const (.int .i64 5)) (.tmp 6)),
    .o 11 (.lt (some 7) (.build [.a (.bool false), .a (.bool false), .a (.bool false), .a (.bool false), .a (.bool false), .a (.bool false), .a (.bool false), .a (.bool false), .a (.bool false), .a (.nilFunc)] [(5, 1, (.const (.bool true))), (1, 1, (.const (.bool true))), (9, 1, (.func model_kinds_3.id))])),
    .o 12 (.mup [] .i64 (.tmp 1) (.const (.int .i64 6)) (.tmp 7)),
    .o 13 (.lt (some 8) (.build [.a (.bool false), .a (.bool false), .a (.bool false), .a (.bool false), .a (.bool false), .a (.bool false), .a (.bool false), .a (.bool false), .a (.bool false), .a (.nilFunc)] [(4, 1, (.const (.bool true))), (0, 1, (.const (.bool true))), (6, 1, (.const (.bool true))), (9, 1, (.func model_reif.id))])),
    .o 14 (.mup [] .i64 (.tmp 1) (.const (.int .i64 7)) (.tmp 8)),
    .o 15 (.lt (some 9) (.build [.a (.bool false), .a (.bool false), .a (.bool false), .a (.bool false), .a (.bool false), .a (.bool false), .a (.bool false), .a (.bool false), .a (.bool false), .a (.nilFunc)] [(1, 1, (.const (.bool true))), (3, 1, (.const (.bool true))), (9, 1, (.func model_table.id))])),
    .o 16 (.mup [] .i64 (.tmp 1) (.const (.int .i64 8)) (.tmp 9)),
    .o 17 (.lt (some 10) (.build [.a (.bool false), .a (.bool false), .a (.bool false), .a (.bool false), .a (.bool false), .a (.bool false), .a (.bool false), .a (.bool false), .a (.bool false), .a (.nilFunc)] [(1, 1, (.const (.bool true))), (6, 1, (.const (.bool true))), (7, 1, (.const (.bool true))), (8, 1, (.const (.bool true))), (9, 1, (.func model_count.id))])),
    .o 18 (.mup [] .i64 (.tmp 1) (.const (.int .i64 9)) (.tmp 10)),
    .o 19 (.lt (some 11) (.mov (.tmp 1))),
    .o 20 (.lt (some 0) (.mov (.tmp 11))),
    .g (.keep [0])]) (.ret))
def model_kinds.rs : List Rs := [.sl 0]
theorem model_kinds.ok : isFn Try.prog model_kinds.id 12 model_kinds.ann model_kinds.ir model_kinds.rs := ⟨Try.f33, _, Try.func33, rfl, rfl, by kernel_rfl, by kernel_rfl⟩
-- hallmark/model.Holds$1
def model_Holds_1.ann : List (Nat × RA) := [(0, { gs := [], keep := some [0, 1] }), (1, { gs := [], keep := some [3] })]
def model_Holds_1.ir : C := .seq (.reg 0 [.o 0 (.lt (some 3) (.mov (.const (.int .i64 0)))),
    .g (.keep [0, 1])]) (.seq (.reg 0 [.o 0 (.lt (some 4) (.ld false 1 (.tmp 1))),
    .o 1 (.lt (some 5) (.mov (.tmp 0))),
    .o 2 (.lt (some 6) (.ixS 1 (.tmp 4) (.tmp 5))),
    .o 3 (.lt (some 7) (.ld false 1 (.tmp 6))),
    .o 4 (.lt (some 3) (.mov (.tmp 7))),
    .g (.keep [3])]) (.ret))
def model_Holds_1.rs : List Rs := [.sl 3]
theorem model_Holds_1.ok : isFn Try.prog model_Holds_1.id 8 model_Holds_1.ann model_Holds_1.ir model_Holds_1.rs := ⟨Try.f34, _, Try.func34, rfl, rfl, by kernel_rfl, by kernel_rfl⟩
-- hallmark/hallmarklaw4.may
def hallmarklaw4_may.ann : List (Nat × RA) := [(0, { gs := [], keep := some [1, 2] }), (1, { gs := [], keep := some [1, 2, 14] }), (2, { gs := [], keep := some [4] }), (3, { gs := [], keep := some [1, 5], aps := [(1, [1000004])] }), (4, { gs := [], keep := some [1, 5, 6] }), (5, { gs := [], keep := some [1, 5, 6, 20] }), (6, { gs := [], keep := some [1, 5, 6] }), (7, { gs := [], keep := some [1, 5, 6], aps := [(10, [1000004]), (13, [1000004])] }), (8, { gs := [], keep := some [8], aps := [(1, [1000001])] }), (9, { gs := [], keep := some [4] })]
def hallmarklaw4_may.b0 : C := .seq (.seq (.reg 0 [.o 0 (.lt (some 18) (.mov (.tmp 6))),
    .o 1 (.lt (some 19) (.mov (.tmp 1))),
    .o 2 (.lt (some 20) (.bin .lss (.tmp 18) (.tmp 19))),
    .g (.keep [1, 5, 6, 20])]) (.cond (.tmp 20) (.skip) (.exit 0))) (.seq (.block 1 (.reg 3 [.o 0 (.lt (some 23) (.fad (.tmp 5) 0)),
    .o 1 (.lt (some 24) (.ld false 1 (.tmp 23))),
    .o 2 (.lt (some 25) (.mov (.tmp 6))),
    .o 3 (.lt (some 26) (.bin .rem (.tmp 25) (.const (.int .i64 26)))),
    .o 4 (.lt (some 27) (.conv .u8 (.tmp 26))),
    .o 5 (.lt (some 28) (.bin .add (.const (.int .u8 97)) (.tmp 27))),
    .o 6 (.lt (some 29) (.mov (.tmp 6))),
    .o 7 (.lt (some 30) (.bin .quo (.tmp 29) (.const (.int .i64 26)))),
    .o 8 (.lt (some 31) (.conv .u8 (.tmp 30))),
    .o 9 (.lt (some 32) (.bin .add (.const (.int .u8 97)) (.tmp 31))),
    .o 10 (.bsv (some 33) 1 2 [.a (.int .u8 0)] [(0, (.tmp 28)), (1, (.tmp 32))]),
    .o 11 (.lt (some 34) (.cvBS (.tmp 33))),
    .o 12 (.lt (some 35) (.build [.a (.string ⟨#[]⟩), .a (.int .i64 0), .a (.int .i64 0)] [(0, 1, (.tmp 34))])),
    .o 13 (.bsv (some 36) 3 1 [.a (.string ⟨#[]⟩), .a (.int .i64 0), .a (.int .i64 0)] [(0, (.tmp 35))]),
    .o 14 (.app [] (some 37) 2 3 32 (.tmp 24) (.tmp 36)),
    .o 15 (.lt (some 38) (.fad (.tmp 5) 0)),
    .o 16 (.store [] 1 (.tmp 38) (.tmp 37)),
    .g (.keep [1, 5, 6])])) (.reg 0 [.o 0 (.lt (some 21) (.mov (.tmp 6))),
    .o 1 (.lt (some 22) (.bin .add (.tmp 21) (.const (.int .i64 1)))),
    .o 2 (.lt (some 6) (.mov (.tmp 22))),
    .g (.keep [1, 5, 6])]))
def hallmarklaw4_may.ir : C := .seq (.reg 1 [.o 0 (.box (some 2) 0 10 (.tmp 0)),
    .o 1 (.lt (some 4) (.mov (.const (.bool false)))),
    .g (.keep [1, 2])]) (.seq (.seq (.reg 0 [.o 0 (.lt (some 9) (.mov (.tmp 1))),
    .o 1 (.lt (some 10) (.bin .lss (.tmp 9) (.const (.int .i64 1)))),
    .o 2 (.lt (some 11) (.mov (.tmp 10))),
    .gd 3 11 false (some 12) (.lt (some 12) (.mov (.tmp 1))),
    .gd 4 11 false (some 13) (.lt (some 13) (.bin .gtr (.tmp 12) (.const (.int .i64 32)))),
    .o 5 (.lt (some 14) (.pick (.tmp 11) (.const (.bool true)) (.tmp 13))),
    .g (.keep [1, 2, 14])]) (.cond (.tmp 14) (.seq (.reg 0 [.o 0 (.lt (some 4) (.mov (.const (.bool false)))),
    .g (.keep [4])]) (.ret)) (.skip))) (.seq (.reg 2 [.o 0 (.lt (some 15) (.ld true 10 (.tmp 2))),
    .o 1 (.bsv (some 16) 10 1 [.a (.int .i64 0), .a (.int .i64 0), .a (.slice none 0 0), .a (.int .i64 0), .a (.int .i64 0), .a (.int .i64 0), .a (.int .i64 0), .a (.slice none 0 0), .a (.slice none 0 0), .a (.slice none 0 0)] [(0, (.tmp 15))]),
    .o 2 (.lt (some 17) (.build [.a (.slice none 0 0), .a (.slice none 0 0), .a (.bool false), .a (.slice none 0 0)] [(1, 1, (.tmp 16))])),
    .o 3 (.alloc (some 5) 1 4 [.a (.slice none 0 0), .a (.slice none 0 0), .a (.bool false), .a (.slice none 0 0)]),
    .o 4 (.store [] 4 (.tmp 5) (.tmp 17)),
    .g (.keep [1, 5])]) (.seq (.seq (.reg 0 [.o 0 (.lt (some 6) (.mov (.const (.int .i64 0)))),
    .g (.keep [1, 5, 6])]) (.block 0 (.loop hallmarklaw4_may.b0))) (.seq (.reg 0 [.o 0 (.lt (some 40) (.ld true 4 (.tmp 5))),
    .o 1 (.callb (some 41) (.func model_Check.id) [(.tmp 40)]),
    .o 2 (.lt (some 39) (.mov (.tmp 41))),
    .o 3 (.lt (some 42) (.ext (.tmp 39) 0)),
    .o 4 (.lt (some 43) (.ext (.tmp 39) 1)),
    .o 5 (.lt (some 7) (.mov (.tmp 42))),
    .o 6 (.lt (some 8) (.mov (.tmp 43))),
    .g (.keep [8])]) (.seq (.reg 0 [.o 0 (.lt (some 44) (.mov (.tmp 8))),
    .o 1 (.lt (some 45) (.bin .eql (.tmp 44) (.const (.int .i64 0)))),
    .o 2 (.lt (some 4) (.mov (.tmp 45))),
    .g (.keep [4])]) (.ret))))))
def hallmarklaw4_may.rs : List Rs := [.sl 4]
theorem hallmarklaw4_may.ok : isFn Try.prog hallmarklaw4_may.id 46 hallmarklaw4_may.ann hallmarklaw4_may.ir hallmarklaw4_may.rs := ⟨Try.f35, _, Try.func35, rfl, rfl, by kernel_rfl, by kernel_rfl⟩
-- slices.Clone[[]hallmark/api.Var,hallmark/api.Var]
def slices_Clone_Lapi_Var_api_Var.ann : List (Nat × RA) := [(0, { gs := [], keep := some [0] }), (1, { gs := [], keep := some [0, 4] }), (2, { gs := [], keep := some [2] }), (3, { gs := [], keep := some [2], aps := [(0, [1000004])] })]
def slices_Clone_Lapi_Var_api_Var.ir : C := .seq (.reg 0 [.o 0 (.lt (some 2) (.mov (.const (.slice none 0 0)))),
    .g (.keep [0])]) (.seq (.seq (.reg 0 [.o 0 (.lt (some 3) (.mov (.tmp 0))),
    .o 1 (.lt (some 4) (.eqN false (.tmp 3))),
    .g (.keep [0, 4])]) (.cond (.tmp 4) (.seq (.reg 0 [.o 0 (.lt (some 2) (.mov (.const (.slice none 0 0)))),
    .g (.keep [2])]) (.ret)) (.skip))) (.seq (.reg 2 [.o 0 (.bsv (some 5) 3 0 [.a (.string ⟨#[]⟩), .a (.int .i64 0), .a (.int .i64 0)] []),
    .o 1 (.lt (some 6) (.mov (.tmp 0))),
    .o 2 (.app [] (some 7) 1 3 32 (.tmp 5) (.tmp 6)),
    .o 3 (.lt (some 2) (.mov (.tmp 7))),
    .g (.keep [2])]) (.ret)))
def slices_Clone_Lapi_Var_api_Var.rs : List Rs := [.sl 2]
theorem slices_Clone_Lapi_Var_api_Var.ok : isFn Try.prog slices_Clone_Lapi_Var_api_Var.id 8 slices_Clone_Lapi_Var_api_Var.ann slices_Clone_Lapi_Var_api_Var.ir slices_Clone_Lapi_Var_api_Var.rs := ⟨Try.f36, _, Try.func36, rfl, rfl, by kernel_rfl, by kernel_rfl⟩
-- slices.Clone[[]hallmark/api.Term,hallmark/api.Term]
def slices_Clone_Lapi_Term_api_Term.ann : List (Nat × RA) := [(0, { gs := [], keep := some [0] }), (1, { gs := [], keep := some [0, 4] }), (2, { gs := [], keep := some [2] }), (3, { gs := [], keep := some [2], aps := [(0, [1000004])] })]
def slices_Clone_Lapi_Term_api_Term.ir : C := .seq (.reg 0 [.o 0 (.lt (some 2) (.mov (.const (.slice none 0 0)))),
    .g (.keep [0])]) (.seq (.seq (.reg 0 [.o 0 (.lt (some 3) (.mov (.tmp 0))),
    .o 1 (.lt (some 4) (.eqN false (.tmp 3))),
    .g (.keep [0, 4])]) (.cond (.tmp 4) (.seq (.reg 0 [.o 0 (.lt (some 2) (.mov (.const (.slice none 0 0)))),
    .g (.keep [2])]) (.ret)) (.skip))) (.seq (.reg 2 [.o 0 (.bsv (some 5) 2 0 [.a (.int .i64 0), .a (.int .i64 0)] []),
    .o 1 (.lt (some 6) (.mov (.tmp 0))),
    .o 2 (.app [] (some 7) 1 2 16 (.tmp 5) (.tmp 6)),
    .o 3 (.lt (some 2) (.mov (.tmp 7))),
    .g (.keep [2])]) (.ret)))
def slices_Clone_Lapi_Term_api_Term.rs : List Rs := [.sl 2]
theorem slices_Clone_Lapi_Term_api_Term.ok : isFn Try.prog slices_Clone_Lapi_Term_api_Term.id 8 slices_Clone_Lapi_Term_api_Term.ann slices_Clone_Lapi_Term_api_Term.ir slices_Clone_Lapi_Term_api_Term.rs := ⟨Try.f37, _, Try.func37, rfl, rfl, by kernel_rfl, by kernel_rfl⟩
-- slices.Clone[[]hallmark/api.Con,hallmark/api.Con]
def slices_Clone_Lapi_Con_api_Con.ann : List (Nat × RA) := [(0, { gs := [], keep := some [0] }), (1, { gs := [], keep := some [0, 4] }), (2, { gs := [], keep := some [2] }), (3, { gs := [], keep := some [2], aps := [(0, [1000004])] })]
def slices_Clone_Lapi_Con_api_Con.ir : C := .seq (.reg 0 [.o 0 (.lt (some 2) (.mov (.const (.slice none 0 0)))),
    .g (.keep [0])]) (.seq (.seq (.reg 0 [.o 0 (.lt (some 3) (.mov (.tmp 0))),
    .o 1 (.lt (some 4) (.eqN false (.tmp 3))),
    .g (.keep [0, 4])]) (.cond (.tmp 4) (.seq (.reg 0 [.o 0 (.lt (some 2) (.mov (.const (.slice none 0 0)))),
    .g (.keep [2])]) (.ret)) (.skip))) (.seq (.reg 2 [.o 0 (.bsv (some 5) 10 0 [.a (.int .i64 0), .a (.int .i64 0), .a (.slice none 0 0), .a (.int .i64 0), .a (.int .i64 0), .a (.int .i64 0), .a (.int .i64 0), .a (.slice none 0 0), .a (.slice none 0 0), .a (.slice none 0 0)] []),
    .o 1 (.lt (some 6) (.mov (.tmp 0))),
    .o 2 (.app [] (some 7) 1 10 144 (.tmp 5) (.tmp 6)),
    .o 3 (.lt (some 2) (.mov (.tmp 7))),
    .g (.keep [2])]) (.ret)))
def slices_Clone_Lapi_Con_api_Con.rs : List Rs := [.sl 2]
theorem slices_Clone_Lapi_Con_api_Con.ok : isFn Try.prog slices_Clone_Lapi_Con_api_Con.id 8 slices_Clone_Lapi_Con_api_Con.ann slices_Clone_Lapi_Con_api_Con.ir slices_Clone_Lapi_Con_api_Con.rs := ⟨Try.f38, _, Try.func38, rfl, rfl, by kernel_rfl, by kernel_rfl⟩
-- slices.Clone[[]int,int]
def slices_Clone_Lint_int.ann : List (Nat × RA) := [(0, { gs := [], keep := some [0] }), (1, { gs := [], keep := some [0, 4] }), (2, { gs := [], keep := some [2] }), (3, { gs := [], keep := some [2], aps := [(0, [1000004])] })]
def slices_Clone_Lint_int.ir : C := .seq (.reg 0 [.o 0 (.lt (some 2) (.mov (.const (.slice none 0 0)))),
    .g (.keep [0])]) (.seq (.seq (.reg 0 [.o 0 (.lt (some 3) (.mov (.tmp 0))),
    .o 1 (.lt (some 4) (.eqN false (.tmp 3))),
    .g (.keep [0, 4])]) (.cond (.tmp 4) (.seq (.reg 0 [.o 0 (.lt (some 2) (.mov (.const (.slice none 0 0)))),
    .g (.keep [2])]) (.ret)) (.skip))) (.seq (.reg 2 [.o 0 (.bsv (some 5) 1 0 [.a (.int .i64 0)] []),
    .o 1 (.lt (some 6) (.mov (.tmp 0))),
    .o 2 (.app [] (some 7) 1 1 8 (.tmp 5) (.tmp 6)),
    .o 3 (.lt (some 2) (.mov (.tmp 7))),
    .g (.keep [2])]) (.ret)))
def slices_Clone_Lint_int.rs : List Rs := [.sl 2]
theorem slices_Clone_Lint_int.ok : isFn Try.prog slices_Clone_Lint_int.id 8 slices_Clone_Lint_int.ann slices_Clone_Lint_int.ir slices_Clone_Lint_int.rs := ⟨Try.f39, _, Try.func39, rfl, rfl, by kernel_rfl, by kernel_rfl⟩
-- slices.Clone[[][]int,[]int]
def slices_Clone_LLint_Lint.ann : List (Nat × RA) := [(0, { gs := [], keep := some [0] }), (1, { gs := [], keep := some [0, 4] }), (2, { gs := [], keep := some [2] }), (3, { gs := [], keep := some [2], aps := [(0, [1000004])] })]
def slices_Clone_LLint_Lint.ir : C := .seq (.reg 0 [.o 0 (.lt (some 2) (.mov (.const (.slice none 0 0)))),
    .g (.keep [0])]) (.seq (.seq (.reg 0 [.o 0 (.lt (some 3) (.mov (.tmp 0))),
    .o 1 (.lt (some 4) (.eqN false (.tmp 3))),
    .g (.keep [0, 4])]) (.cond (.tmp 4) (.seq (.reg 0 [.o 0 (.lt (some 2) (.mov (.const (.slice none 0 0)))),
    .g (.keep [2])]) (.ret)) (.skip))) (.seq (.reg 2 [.o 0 (.bsv (some 5) 1 0 [.a (.slice none 0 0)] []),
    .o 1 (.lt (some 6) (.mov (.tmp 0))),
    .o 2 (.app [] (some 7) 1 1 24 (.tmp 5) (.tmp 6)),
    .o 3 (.lt (some 2) (.mov (.tmp 7))),
    .g (.keep [2])]) (.ret)))
def slices_Clone_LLint_Lint.rs : List Rs := [.sl 2]
theorem slices_Clone_LLint_Lint.ok : isFn Try.prog slices_Clone_LLint_Lint.id 8 slices_Clone_LLint_Lint.ann slices_Clone_LLint_Lint.ir slices_Clone_LLint_Lint.rs := ⟨Try.f40, _, Try.func40, rfl, rfl, by kernel_rfl, by kernel_rfl⟩
-- slices.ContainsFunc[[]hallmark/api.Con,hallmark/api.Con]
def slices_ContainsFunc_Lapi_Con_api_Con.ann : List (Nat × RA) := [(0, { gs := [], keep := some [0, 1] }), (1, { gs := [], keep := some [4] })]
def slices_ContainsFunc_Lapi_Con_api_Con.ir : C := .seq (.reg 0 [.o 0 (.lt (some 4) (.mov (.const (.bool false)))),
    .g (.keep [0, 1])]) (.seq (.reg 0 [.o 0 (.lt (some 5) (.mov (.tmp 0))),
    .o 1 (.lt (some 6) (.mov (.tmp 1))),
    .o 2 (.call (some 7) slices_IndexFunc_Lapi_Con_api_Con.id [(.tmp 5), (.tmp 6)]),
    .o 3 (.lt (some 8) (.bin .geq (.tmp 7) (.const (.int .i64 0)))),
    .o 4 (.lt (some 4) (.mov (.tmp 8))),
    .g (.keep [4])]) (.ret))
def slices_ContainsFunc_Lapi_Con_api_Con.rs : List Rs := [.sl 4]
theorem slices_ContainsFunc_Lapi_Con_api_Con.ok : isFn Try.prog slices_ContainsFunc_Lapi_Con_api_Con.id 9 slices_ContainsFunc_Lapi_Con_api_Con.ann slices_ContainsFunc_Lapi_Con_api_Con.ir slices_ContainsFunc_Lapi_Con_api_Con.rs := ⟨Try.f41, _, Try.func41, rfl, rfl, by kernel_rfl, by kernel_rfl⟩
-- hallmark/model.Solution$1
def model_Solution_1.ann : List (Nat × RA) := [(0, { gs := [], keep := some [1, 2] }), (1, { gs := [], keep := some [3] })]
def model_Solution_1.ir : C := .seq (.reg 1 [.o 0 (.box (some 2) 0 10 (.tmp 0)),
    .o 1 (.lt (some 3) (.mov (.const (.bool false)))),
    .g (.keep [1, 2])]) (.seq (.reg 0 [.o 0 (.lt (some 4) (.ld true 10 (.tmp 2))),
    .o 1 (.lt (some 5) (.ld false 1 (.tmp 1))),
    .o 2 (.call (some 6) model_Holds.id [(.tmp 4), (.tmp 5)]),
    .o 3 (.lt (some 7) (.un .not (.tmp 6))),
    .o 4 (.lt (some 3) (.mov (.tmp 7))),
    .g (.keep [3])]) (.ret))
def model_Solution_1.rs : List Rs := [.sl 3]
theorem model_Solution_1.ok : isFn Try.prog model_Solution_1.id 8 model_Solution_1.ann model_Solution_1.ir model_Solution_1.rs := ⟨Try.f42, _, Try.func42, rfl, rfl, by kernel_rfl, by kernel_rfl⟩
-- (*hallmark/hallmarkroom.Count).Text
def hallmarkroom_Count_Text.ann : List (Nat × RA) := [(0, { gs := [], keep := some [0, 1], aps := [(1, [1000000])] }), (1, { gs := [], keep := some [], aps := [(3, [1000000])] })]
def hallmarkroom_Count_Text.ir : C := .seq (.reg 0 [.o 0 (.lt (some 4) (.mov (.tmp 0))),
    .o 1 (.callm (some 5) (.func hallmarkroom_Count_Add.id) [(.tmp 4), (.const (.int .i64 1))]),
    .g (.keep [0, 1])]) (.reg 0 [.o 0 (.lt (some 6) (.mov (.tmp 0))),
    .o 1 (.lt (some 7) (.mov (.tmp 1))),
    .o 2 (.lt (some 8) (.lenStr (.tmp 7))),
    .o 3 (.callm (some 9) (.func hallmarkroom_Count_Add.id) [(.tmp 6), (.tmp 8)]),
    .g (.keep [])])
def hallmarkroom_Count_Text.rs : List Rs := []
theorem hallmarkroom_Count_Text.ok : isFn Try.prog hallmarkroom_Count_Text.id 10 hallmarkroom_Count_Text.ann hallmarkroom_Count_Text.ir hallmarkroom_Count_Text.rs := ⟨Try.f43, _, Try.func43, rfl, rfl, by kernel_rfl, by kernel_rfl⟩
-- (*hallmark/hallmarkroom.Count).Con
def hallmarkroom_Count_Con.ann : List (Nat × RA) := [(0, { gs := [], keep := some [0, 3] }), (1, { gs := [], keep := some [0, 3], aps := [(1, [1000000])] }), (2, { gs := [], keep := some [0, 3], aps := [(4, [1000000])] }), (3, { gs := [], keep := some [0, 3], aps := [(4, [1000000])] }), (4, { gs := [], keep := some [0, 3], aps := [(4, [1000000])] }), (5, { gs := [], keep := some [], aps := [(3, [1000000])] })]
def hallmarkroom_Count_Con.ir : C := .seq (.reg 1 [.o 0 (.box (some 3) 0 10 (.tmp 1)),
    .g (.keep [0, 3])]) (.seq (.reg 0 [.o 0 (.lt (some 4) (.mov (.tmp 0))),
    .o 1 (.callm (some 5) (.func hallmarkroom_Count_Add.id) [(.tmp 4), (.const (.int .i64 1))]),
    .g (.keep [0, 3])]) (.seq (.reg 0 [.o 0 (.lt (some 6) (.mov (.tmp 0))),
    .o 1 (.lt (some 7) (.fad (.tmp 3) 2)),
    .o 2 (.lt (some 8) (.ld false 1 (.tmp 7))),
    .o 3 (.lt (some 9) (.lenSl (.tmp 8))),
    .o 4 (.callm (some 10) (.func hallmarkroom_Count_Add.id) [(.tmp 6), (.tmp 9)]),
    .g (.keep [0, 3])]) (.seq (.reg 0 [.o 0 (.lt (some 11) (.mov (.tmp 0))),
    .o 1 (.lt (some 12) (.fad (.tmp 3) 7)),
    .o 2 (.lt (some 13) (.ld false 1 (.tmp 12))),
    .o 3 (.lt (some 14) (.lenSl (.tmp 13))),
    .o 4 (.callm (some 15) (.func hallmarkroom_Count_Add.id) [(.tmp 11), (.tmp 14)]),
    .g (.keep [0, 3])]) (.seq (.reg 0 [.o 0 (.lt (some 16) (.mov (.tmp 0))),
    .o 1 (.lt (some 17) (.fad (.tmp 3) 8)),
    .o 2 (.lt (some 18) (.ld false 1 (.tmp 17))),
    .o 3 (.lt (some 19) (.lenSl (.tmp 18))),
    .o 4 (.callm (some 20) (.func hallmarkroom_Count_Add.id) [(.tmp 16), (.tmp 19)]),
    .g (.keep [0, 3])]) (.reg 0 [.o 0 (.lt (some 21) (.mov (.tmp 0))),
    .o 1 (.lt (some 22) (.fad (.tmp 3) 9)),
    .o 2 (.lt (some 23) (.ld false 1 (.tmp 22))),
    .o 3 (.callm (some 24) (.func hallmarkroom_Count_Lists.id) [(.tmp 21), (.tmp 23)]),
    .g (.keep [])])))))
def hallmarkroom_Count_Con.rs : List Rs := []
theorem hallmarkroom_Count_Con.ok : isFn Try.prog hallmarkroom_Count_Con.id 25 hallmarkroom_Count_Con.ann hallmarkroom_Count_Con.ir hallmarkroom_Count_Con.rs := ⟨Try.f44, _, Try.func44, rfl, rfl, by kernel_rfl, by kernel_rfl⟩
-- hallmark/model.variable
def model_variable.ann : List (Nat × RA) := [(0, { gs := [], keep := some [0, 1] }), (1, { gs := [], keep := some [0, 1, 5] }), (2, { gs := [], keep := some [5, 20], aps := [(9, [1000001])] }), (3, { gs := [], keep := some [4] }), (4, { gs := [], keep := some [45] }), (5, { gs := [], keep := some [4] }), (6, { gs := [], keep := some [4] })]
def model_variable.ir : C := .seq (.reg 0 [.o 0 (.lt (some 4) (.mov (.const (.int .i64 0)))),
    .g (.keep [0, 1])]) (.seq (.reg 1 [.o 0 (.lt (some 6) (.mov (.tmp 0))),
    .o 1 (.lt (some 7) (.mov (.tmp 1))),
    .o 2 (.lt (some 8) (.ixS 3 (.tmp 6) (.tmp 7))),
    .o 3 (.lt (some 9) (.ld true 3 (.tmp 8))),
    .o 4 (.alloc (some 5) 0 3 [.a (.string ⟨#[]⟩), .a (.int .i64 0), .a (.int .i64 0)]),
    .o 5 (.store [] 3 (.tmp 5) (.tmp 9)),
    .g (.keep [0, 1, 5])]) (.seq (.seq (.reg 0 [.o 0 (.lt (some 10) (.fad (.tmp 5) 0)),
    .o 1 (.lt (some 11) (.ld false 1 (.tmp 10))),
    .o 2 (.call (some 12) model_isName.id [(.tmp 11)]),
    .o 3 (.lt (some 13) (.un .not (.tmp 12))),
    .o 4 (.lt (some 14) (.mov (.tmp 13))),
    .gd 5 14 false (some 15) (.lt (some 15) (.mov (.tmp 0))),
    .gd 6 14 false (some 16) (.lt (some 16) (.mov (.tmp 1))),
    .gd 7 14 false (some 17) (.lt (some 17) (.slSl 3 (.tmp 15) none (some (.tmp 16)))),
    .gd 8 14 false (some 18) (.lt (some 18) (.mkfn (.func model_variable_1.id) [] [(.tmp 5)])),
    .gd 9 14 false (some 19) (.callb (some 19) (.func slices_ContainsFunc_Lapi_Var_api_Var.id) [(.tmp 17), (.tmp 18)]),
    .o 10 (.lt (some 20) (.pick (.tmp 14) (.const (.bool true)) (.tmp 19))),
    .g (.keep [5, 20])]) (.cond (.tmp 20) (.seq (.reg 0 [.o 0 (.lt (some 4) (.mov (.const (.int .i64 41)))),
    .g (.keep [4])]) (.ret)) (.skip))) (.seq (.seq (.reg 0 [.o 0 (.lt (some 21) (.fad (.tmp 5) 1)),
    .o 1 (.lt (some 22) (.ld false 1 (.tmp 21))),
    .o 2 (.call (some 23) model_within.id [(.tmp 22), (.const (.int .i64 1000000000))]),
    .o 3 (.lt (some 24) (.un .not (.tmp 23))),
    .o 4 (.lt (some 25) (.mov (.tmp 24))),
    .gd 5 25 false (some 26) (.lt (some 26) (.fad (.tmp 5) 2)),
    .gd 6 25 false (some 27) (.lt (some 27) (.ld false 1 (.tmp 26))),
    .gd 7 25 false (some 28) (.call (some 28) model_within.id [(.tmp 27), (.const (.int .i64 1000000000))]),
    .gd 8 25 false (some 29) (.lt (some 29) (.un .not (.tmp 28))),
    .o 9 (.lt (some 30) (.pick (.tmp 25) (.const (.bool true)) (.tmp 29))),
    .o 10 (.lt (some 31) (.mov (.tmp 30))),
    .gd 11 31 false (some 32) (.lt (some 32) (.fad (.tmp 5) 1)),
    .gd 12 31 false (some 33) (.lt (some 33) (.ld false 1 (.tmp 32))),
    .gd 13 31 false (some 34) (.lt (some 34) (.fad (.tmp 5) 2)),
    .gd 14 31 false (some 35) (.lt (some 35) (.ld false 1 (.tmp 34))),
    .gd 15 31 false (some 36) (.lt (some 36) (.bin .gtr (.tmp 33) (.tmp 35))),
    .o 16 (.lt (some 37) (.pick (.tmp 31) (.const (.bool true)) (.tmp 36))),
    .o 17 (.lt (some 38) (.mov (.tmp 37))),
    .gd 18 38 false (some 39) (.lt (some 39) (.fad (.tmp 5) 2)),
    .gd 19 38 false (some 40) (.lt (some 40) (.ld false 1 (.tmp 39))),
    .gd 20 38 false (some 41) (.lt (some 41) (.fad (.tmp 5) 1)),
    .gd 21 38 false (some 42) (.lt (some 42) (.ld false 1 (.tmp 41))),
    .gd 22 38 false (some 43) (.lt (some 43) (.bin .sub (.tmp 40) (.tmp 42))),
    .gd 23 38 false (some 44) (.lt (some 44) (.bin .geq (.tmp 43) (.const (.int .i64 64)))),
    .o 24 (.lt (some 45) (.pick (.tmp 38) (.const (.bool true)) (.tmp 44))),
    .g (.keep [45])]) (.cond (.tmp 45) (.seq (.reg 0 [.o 0 (.lt (some 4) (.mov (.const (.int .i64 42)))),
    .g (.keep [4])]) (.ret)) (.skip))) (.seq (.reg 0 [.o 0 (.lt (some 4) (.mov (.const (.int .i64 0)))),
    .g (.keep [4])]) (.ret)))))
def model_variable.rs : List Rs := [.sl 4]
theorem model_variable.ok : isFn Try.prog model_variable.id 46 model_variable.ann model_variable.ir model_variable.rs := ⟨Try.f45, _, Try.func45, rfl, rfl, by kernel_rfl, by kernel_rfl⟩
-- hallmark/model.goal
def model_goal.ann : List (Nat × RA) := [(0, { gs := [], keep := some [1] }), (1, { gs := [], keep := some [1, 3, 4] }), (2, { gs := [], keep := some [1, 3, 4, 14] }), (3, { gs := [], keep := some [2] }), (4, { gs := [], keep := some [3, 4, 24] }), (5, { gs := [], keep := some [2] }), (6, { gs := [], keep := some [4, 32] }), (7, { gs := [], keep := some [2] }), (8, { gs := [], keep := some [34] }), (9, { gs := [], keep := some [2] }), (10, { gs := [], keep := some [2] })]
def model_goal.ir : C := .seq (.reg 1 [.o 0 (.box (some 1) 0 4 (.tmp 0)),
    .o 1 (.lt (some 2) (.mov (.const (.int .i64 0)))),
    .g (.keep [1])]) (.seq (.reg 0 [.o 0 (.lt (some 6) (.fad (.tmp 1) 3)),
    .o 1 (.lt (some 7) (.ld false 1 (.tmp 6))),
    .o 2 (.lt (some 8) (.fad (.tmp 1) 0)),
    .o 3 (.lt (some 9) (.ld false 1 (.tmp 8))),
    .o 4 (.lt (some 10) (.lenSl (.tmp 9))),
    .o 5 (.call (some 11) model_terms.id [(.tmp 7), (.tmp 10)]),
    .o 6 (.lt (some 5) (.mov (.tmp 11))),
    .o 7 (.lt (some 12) (.ext (.tmp 5) 0)),
    .o 8 (.lt (some 13) (.ext (.tmp 5) 1)),
    .o 9 (.lt (some 3) (.mov (.tmp 12))),
    .o 10 (.lt (some 4) (.mov (.tmp 13))),
    .g (.keep [1, 3, 4])]) (.seq (.block 0 (.seq (.reg 0 [.o 0 (.lt (some 15) (.fad (.tmp 1) 2)),
    .o 1 (.lt (some 16) (.ld false 1 (.tmp 15))),
    .o 2 (.lt (some 17) (.un .not (.tmp 16))),
    .o 3 (.lt (some 18) (.mov (.tmp 17))),
    .gd 4 18 true (some 19) (.lt (some 19) (.fad (.tmp 1) 3)),
    .gd 5 18 true (some 20) (.lt (some 20) (.ld false 1 (.tmp 19))),
    .gd 6 18 true (some 21) (.lt (some 21) (.lenSl (.tmp 20))),
    .gd 7 18 true (some 22) (.lt (some 22) (.bin .gtr (.tmp 21) (.const (.int .i64 0)))),
    .o 8 (.lt (some 23) (.pick (.tmp 18) (.tmp 22) (.const (.bool false)))),
    .o 9 (.lt (some 14) (.mov (.tmp 23))),
    .g (.keep [1, 3, 4, 14])]) (.cond (.tmp 14) (.seq (.reg 0 [.o 0 (.lt (some 2) (.mov (.const (.int .i64 48)))),
    .g (.keep [2])]) (.ret)) (.seq (.reg 0 [.o 0 (.lt (some 25) (.fad (.tmp 1) 2)),
    .o 1 (.lt (some 26) (.ld false 1 (.tmp 25))),
    .o 2 (.lt (some 27) (.fad (.tmp 1) 3)),
    .o 3 (.lt (some 28) (.ld false 1 (.tmp 27))),
    .o 4 (.lt (some 29) (.lenSl (.tmp 28))),
    .o 5 (.call (some 30) model_counts.id [(.tmp 26), (.tmp 29)]),
    .o 6 (.lt (some 31) (.un .not (.tmp 30))),
    .o 7 (.lt (some 24) (.mov (.tmp 31))),
    .g (.keep [3, 4, 24])]) (.cond (.tmp 24) (.seq (.reg 0 [.o 0 (.lt (some 2) (.mov (.const (.int .i64 47)))),
    .g (.keep [2])]) (.ret)) (.seq (.reg 0 [.o 0 (.lt (some 33) (.mov (.tmp 3))),
    .o 1 (.lt (some 32) (.mov (.tmp 33))),
    .g (.keep [4, 32])]) (.cond (.tmp 32) (.seq (.reg 0 [.o 0 (.lt (some 2) (.mov (.const (.int .i64 44)))),
    .g (.keep [2])]) (.ret)) (.seq (.reg 0 [.o 0 (.lt (some 35) (.mov (.tmp 4))),
    .o 1 (.lt (some 34) (.mov (.tmp 35))),
    .g (.keep [34])]) (.cond (.tmp 34) (.seq (.reg 0 [.o 0 (.lt (some 2) (.mov (.const (.int .i64 45)))),
    .g (.keep [2])]) (.ret)) (.skip)))))))))) (.seq (.reg 0 [.o 0 (.lt (some 2) (.mov (.const (.int .i64 0)))),
    .g (.keep [2])]) (.ret))))
def model_goal.rs : List Rs := [.sl 2]
theorem model_goal.ok : isFn Try.prog model_goal.id 36 model_goal.ann model_goal.ir model_goal.rs := ⟨Try.f46, _, Try.func46, rfl, rfl, by kernel_rfl, by kernel_rfl⟩
-- hallmark/model.great
def model_great.ann : List (Nat × RA) := [(0, { gs := [], keep := some [0] }), (1, { gs := [], keep := some [2] })]
def model_great.ir : C := .seq (.reg 0 [.o 0 (.lt (some 2) (.mov (.const (.bool false)))),
    .g (.keep [0])]) (.seq (.reg 0 [.o 0 (.lt (some 3) (.mov (.tmp 0))),
    .o 1 (.call (some 4) slices_ContainsFunc_Lint_int.id [(.tmp 3), (.func model_great_1.id)]),
    .o 2 (.lt (some 2) (.mov (.tmp 4))),
    .g (.keep [2])]) (.ret))
def model_great.rs : List Rs := [.sl 2]
theorem model_great.ok : isFn Try.prog model_great.id 5 model_great.ann model_great.ir model_great.rs := ⟨Try.f47, _, Try.func47, rfl, rfl, by kernel_rfl, by kernel_rfl⟩
-- hallmark/model.terms
def model_terms.ann : List (Nat × RA) := [(0, { gs := [], keep := some [0, 1, 4, 5] }), (1, { gs := [], keep := some [1, 4, 5, 8, 9, 10] }), (2, { gs := [], keep := some [1, 4, 5, 8, 9, 10, 11] }), (3, { gs := [], keep := some [1, 4, 5, 7, 8, 9, 10] }), (4, { gs := [], keep := some [1, 4, 5, 7, 8, 9, 10] }), (5, { gs := [], keep := some [1, 4, 5, 8, 9, 10] }), (6, { gs := [], keep := some [1, 4, 5, 8, 9, 10] }), (7, { gs := [], keep := some [4, 5] })]
def model_terms.b0 : C := .seq (.reg 0 [.o 0 (.lt (some 11) (.bin .lss (.tmp 10) (.tmp 9))),
    .g (.keep [1, 4, 5, 8, 9, 10, 11])]) (.seq (.cond (.tmp 11) (.skip) (.exit 0)) (.seq (.block 1 (.seq (.reg 1 [.o 0 (.lt (some 12) (.ixS 2 (.tmp 8) (.tmp 10))),
    .o 1 (.lt (some 13) (.ld true 2 (.tmp 12))),
    .o 2 (.alloc (some 7) 0 2 [.a (.int .i64 0), .a (.int .i64 0)]),
    .o 3 (.store [] 2 (.tmp 7) (.tmp 13)),
    .g (.keep [1, 4, 5, 7, 8, 9, 10])]) (.seq (.reg 0 [.o 0 (.lt (some 14) (.mov (.tmp 4))),
    .o 1 (.lt (some 15) (.mov (.tmp 14))),
    .gd 2 15 false (some 16) (.lt (some 16) (.fad (.tmp 7) 1)),
    .gd 3 15 false (some 17) (.lt (some 17) (.ld false 1 (.tmp 16))),
    .gd 4 15 false (some 18) (.lt (some 18) (.bin .lss (.tmp 17) (.const (.int .i64 0)))),
    .o 5 (.lt (some 19) (.pick (.tmp 15) (.const (.bool true)) (.tmp 18))),
    .o 6 (.lt (some 20) (.mov (.tmp 19))),
    .gd 7 20 false (some 21) (.lt (some 21) (.fad (.tmp 7) 1)),
    .gd 8 20 false (some 22) (.lt (some 22) (.ld false 1 (.tmp 21))),
    .gd 9 20 false (some 23) (.lt (some 23) (.mov (.tmp 1))),
    .gd 10 20 false (some 24) (.lt (some 24) (.bin .geq (.tmp 22) (.tmp 23))),
    .o 11 (.lt (some 25) (.pick (.tmp 20) (.const (.bool true)) (.tmp 24))),
    .o 12 (.lt (some 4) (.mov (.tmp 25))),
    .g (.keep [1, 4, 5, 7, 8, 9, 10])]) (.reg 0 [.o 0 (.lt (some 26) (.mov (.tmp 5))),
    .o 1 (.lt (some 27) (.mov (.tmp 26))),
    .gd 2 27 false (some 28) (.lt (some 28) (.fad (.tmp 7) 0)),
    .gd 3 27 false (some 29) (.lt (some 29) (.ld false 1 (.tmp 28))),
    .gd 4 27 false (some 30) (.lt (some 30) (.bin .eql (.tmp 29) (.const (.int .i64 0)))),
    .o 5 (.lt (some 31) (.pick (.tmp 27) (.const (.bool true)) (.tmp 30))),
    .o 6 (.lt (some 32) (.mov (.tmp 31))),
    .gd 7 32 false (some 33) (.lt (some 33) (.fad (.tmp 7) 0)),
    .gd 8 32 false (some 34) (.lt (some 34) (.ld false 1 (.tmp 33))),
    .gd 9 32 false (some 35) (.call (some 35) model_within.id [(.tmp 34), (.const (.int .i64 1000000))]),
    .gd 10 32 false (some 36) (.lt (some 36) (.un .not (.tmp 35))),
    .o 11 (.lt (some 37) (.pick (.tmp 32) (.const (.bool true)) (.tmp 36))),
    .o 12 (.lt (some 5) (.mov (.tmp 37))),
    .g (.keep [1, 4, 5, 8, 9, 10])])))) (.reg 0 [.o 0 (.lt (some 38) (.bin .add (.tmp 10) (.const (.int .i64 1)))),
    .o 1 (.lt (some 10) (.mov (.tmp 38))),
    .g (.keep [1, 4, 5, 8, 9, 10])])))
def model_terms.ir : C := .seq (.reg 0 [.o 0 (.lt (some 4) (.mov (.const (.bool false)))),
    .o 1 (.lt (some 5) (.mov (.const (.bool false)))),
    .g (.keep [0, 1, 4, 5])]) (.seq (.seq (.reg 0 [.o 0 (.lt (some 8) (.mov (.tmp 0))),
    .o 1 (.lt (some 9) (.lenSl (.tmp 8))),
    .o 2 (.lt (some 10) (.mov (.const (.int .i64 0)))),
    .g (.keep [1, 4, 5, 8, 9, 10])]) (.block 0 (.loop model_terms.b0))) (.seq (.reg 0 [.o 0 (.lt (some 39) (.mov (.tmp 4))),
    .o 1 (.lt (some 40) (.mov (.tmp 5))),
    .o 2 (.lt (some 4) (.mov (.tmp 39))),
    .o 3 (.lt (some 5) (.mov (.tmp 40))),
    .g (.keep [4, 5])]) (.ret)))
def model_terms.rs : List Rs := [.sl 4, .sl 5]
theorem model_terms.ok : isFn Try.prog model_terms.id 41 model_terms.ann model_terms.ir model_terms.rs := ⟨Try.f48, _, Try.func48, rfl, rfl, by kernel_rfl, by kernel_rfl⟩
-- hallmark/model.con$1
def model_con_1.ann : List (Nat × RA) := [(0, { gs := [], keep := some [0, 1] }), (1, { gs := [], keep := some [3] })]
def model_con_1.ir : C := .seq (.reg 0 [.o 0 (.lt (some 3) (.mov (.const (.bool false)))),
    .g (.keep [0, 1])]) (.seq (.reg 0 [.o 0 (.lt (some 4) (.mov (.tmp 0))),
    .o 1 (.lt (some 5) (.bin .lss (.tmp 4) (.const (.int .i64 0)))),
    .o 2 (.lt (some 6) (.mov (.tmp 5))),
    .gd 3 6 false (some 7) (.lt (some 7) (.mov (.tmp 0))),
    .gd 4 6 false (some 8) (.lt (some 8) (.ld false 1 (.tmp 1))),
    .gd 5 6 false (some 9) (.lt (some 9) (.bin .geq (.tmp 7) (.tmp 8))),
    .o 6 (.lt (some 10) (.pick (.tmp 6) (.const (.bool true)) (.tmp 9))),
    .o 7 (.lt (some 3) (.mov (.tmp 10))),
    .g (.keep [3])]) (.ret))
def model_con_1.rs : List Rs := [.sl 3]
theorem model_con_1.ok : isFn Try.prog model_con_1.id 11 model_con_1.ann model_con_1.ir model_con_1.rs := ⟨Try.f49, _, Try.func49, rfl, rfl, by kernel_rfl, by kernel_rfl⟩
-- hallmark/model.field
def model_field.ann : List (Nat × RA) := [(0, { gs := [], keep := some [2, 3] }), (1, { gs := [], keep := some [2, 3, 5] }), (2, { gs := [], keep := some [2, 3, 5, 18] }), (3, { gs := [], keep := some [2, 3, 5] }), (4, { gs := [], keep := some [2, 3, 5, 21] }), (5, { gs := [], keep := some [2, 3, 5] }), (6, { gs := [], keep := some [2, 3, 5, 24] }), (7, { gs := [], keep := some [2, 3, 5] }), (8, { gs := [], keep := some [2, 3, 5, 27] }), (9, { gs := [], keep := some [2, 3, 5] }), (10, { gs := [], keep := some [2, 3, 5, 30] }), (11, { gs := [], keep := some [2, 3, 5] }), (12, { gs := [], keep := some [4] })]
def model_field.ir : C := .seq (.reg 2 [.o 0 (.box (some 2) 0 10 (.tmp 0)),
    .o 1 (.box (some 3) 1 10 (.tmp 1)),
    .o 2 (.lt (some 4) (.mov (.const (.bool false)))),
    .g (.keep [2, 3])]) (.seq (.reg 1 [.o 0 (.lt (some 6) (.fad (.tmp 2) 1)),
    .o 1 (.lt (some 7) (.ld false 1 (.tmp 6))),
    .o 2 (.lt (some 8) (.fad (.tmp 2) 3)),
    .o 3 (.lt (some 9) (.ld false 1 (.tmp 8))),
    .o 4 (.lt (some 10) (.fad (.tmp 2) 4)),
    .o 5 (.lt (some 11) (.ld false 1 (.tmp 10))),
    .o 6 (.lt (some 12) (.fad (.tmp 2) 5)),
    .o 7 (.lt (some 13) (.ld false 1 (.tmp 12))),
    .o 8 (.lt (some 14) (.fad (.tmp 2) 6)),
    .o 9 (.lt (some 15) (.ld false 1 (.tmp 14))),
    .o 10 (.lt (some 16) (.build [.a (.int .i64 0), .a (.int .i64 0), .a (.int .i64 0), .a (.int .i64 0), .a (.int .i64 0)] [(0, 1, (.tmp 7)), (1, 1, (.tmp 9)), (2, 1, (.tmp 11)), (3, 1, (.tmp 13)), (4, 1, (.tmp 15))])),
    .o 11 (.alloc (some 5) 0 5 [.a (.int .i64 0), .a (.int .i64 0), .a (.int .i64 0), .a (.int .i64 0), .a (.int .i64 0)]),
    .o 12 (.store [] 5 (.tmp 5) (.tmp 16)),
    .g (.keep [2, 3, 5])]) (.seq (.seq (.reg 0 [.o 0 (.lt (some 17) (.fad (.tmp 3) 7)),
    .o 1 (.lt (some 18) (.ld false 1 (.tmp 17))),
    .g (.keep [2, 3, 5, 18])]) (.cond (.tmp 18) (.reg 0 [.o 0 (.lt (some 19) (.fad (.tmp 5) 0)),
    .o 1 (.store [] 1 (.tmp 19) (.const (.int .i64 0))),
    .g (.keep [2, 3, 5])]) (.skip))) (.seq (.seq (.reg 0 [.o 0 (.lt (some 20) (.fad (.tmp 3) 8)),
    .o 1 (.lt (some 21) (.ld false 1 (.tmp 20))),
    .g (.keep [2, 3, 5, 21])]) (.cond (.tmp 21) (.reg 0 [.o 0 (.lt (some 22) (.fad (.tmp 5) 2)),
    .o 1 (.store [] 1 (.tmp 22) (.const (.int .i64 0))),
    .g (.keep [2, 3, 5])]) (.skip))) (.seq (.seq (.reg 0 [.o 0 (.lt (some 23) (.fad (.tmp 3) 6)),
    .o 1 (.lt (some 24) (.ld false 1 (.tmp 23))),
    .g (.keep [2, 3, 5, 24])]) (.cond (.tmp 24) (.reg 0 [.o 0 (.lt (some 25) (.fad (.tmp 5) 1)),
    .o 1 (.store [] 1 (.tmp 25) (.const (.int .i64 0))),
    .g (.keep [2, 3, 5])]) (.skip))) (.seq (.seq (.reg 0 [.o 0 (.lt (some 26) (.fad (.tmp 3) 4)),
    .o 1 (.lt (some 27) (.ld false 1 (.tmp 26))),
    .g (.keep [2, 3, 5, 27])]) (.cond (.tmp 27) (.reg 0 [.o 0 (.lt (some 28) (.fad (.tmp 5) 3)),
    .o 1 (.store [] 1 (.tmp 28) (.const (.int .i64 0))),
    .g (.keep [2, 3, 5])]) (.skip))) (.seq (.seq (.reg 0 [.o 0 (.lt (some 29) (.fad (.tmp 3) 5)),
    .o 1 (.lt (some 30) (.ld false 1 (.tmp 29))),
    .g (.keep [2, 3, 5, 30])]) (.cond (.tmp 30) (.reg 0 [.o 0 (.lt (some 31) (.fad (.tmp 5) 4)),
    .o 1 (.store [] 1 (.tmp 31) (.const (.int .i64 0))),
    .g (.keep [2, 3, 5])]) (.skip))) (.seq (.reg 0 [.o 0 (.lt (some 32) (.ld true 5 (.tmp 5))),
    .o 1 (.lt (some 33) (.build [.a (.int .i64 0), .a (.int .i64 0), .a (.int .i64 0), .a (.int .i64 0), .a (.int .i64 0)] [])),
    .o 2 (.lt (some 34) (.eqD true [(0, 0), (1, 0), (2, 0), (3, 0), (4, 0)] (.tmp 32) (.tmp 33))),
    .o 3 (.lt (some 35) (.mov (.tmp 34))),
    .gd 4 35 false (some 36) (.lt (some 36) (.fad (.tmp 3) 0)),
    .gd 5 35 false (some 37) (.lt (some 37) (.ld false 1 (.tmp 36))),
    .gd 6 35 false (some 38) (.lt (some 38) (.un .not (.tmp 37))),
    .gd 7 35 false (some 39) (.lt (some 39) (.mov (.tmp 38))),
    .gd 8 39 true (some 40) (.lt (some 40) (.fad (.tmp 2) 2)),
    .gd 9 39 true (some 41) (.lt (some 41) (.ld false 1 (.tmp 40))),
    .gd 10 39 true (some 42) (.lt (some 42) (.lenSl (.tmp 41))),
    .gd 11 39 true (some 43) (.lt (some 43) (.bin .gtr (.tmp 42) (.const (.int .i64 0)))),
    .gd 12 35 false (some 44) (.lt (some 44) (.pick (.tmp 39) (.tmp 43) (.const (.bool false)))),
    .o 13 (.lt (some 45) (.pick (.tmp 35) (.const (.bool true)) (.tmp 44))),
    .o 14 (.lt (some 46) (.mov (.tmp 45))),
    .gd 15 46 false (some 47) (.lt (some 47) (.fad (.tmp 3) 1)),
    .gd 16 46 false (some 48) (.lt (some 48) (.ld false 1 (.tmp 47))),
    .gd 17 46 false (some 49) (.lt (some 49) (.un .not (.tmp 48))),
    .gd 18 46 false (some 50) (.lt (some 50) (.mov (.tmp 49))),
    .gd 19 50 true (some 51) (.lt (some 51) (.fad (.tmp 2) 7)),
    .gd 20 50 true (some 52) (.lt (some 52) (.ld false 1 (.tmp 51))),
    .gd 21 50 true (some 53) (.lt (some 53) (.lenSl (.tmp 52))),
    .gd 22 50 true (some 54) (.lt (some 54) (.bin .gtr (.tmp 53) (.const (.int .i64 0)))),
    .gd 23 46 false (some 55) (.lt (some 55) (.pick (.tmp 50) (.tmp 54) (.const (.bool false)))),
    .o 24 (.lt (some 56) (.pick (.tmp 46) (.const (.bool true)) (.tmp 55))),
    .o 25 (.lt (some 57) (.mov (.tmp 56))),
    .gd 26 57 false (some 58) (.lt (some 58) (.fad (.tmp 3) 2)),
    .gd 27 57 false (some 59) (.lt (some 59) (.ld false 1 (.tmp 58))),
    .gd 28 57 false (some 60) (.lt (some 60) (.un .not (.tmp 59))),
    .gd 29 57 false (some 61) (.lt (some 61) (.mov (.tmp 60))),
    .gd 30 61 true (some 62) (.lt (some 62) (.fad (.tmp 2) 8)),
    .gd 31 61 true (some 63) (.lt (some 63) (.ld false 1 (.tmp 62))),
    .gd 32 61 true (some 64) (.lt (some 64) (.lenSl (.tmp 63))),
    .gd 33 61 true (some 65) (.lt (some 65) (.bin .gtr (.tmp 64) (.const (.int .i64 0)))),
    .gd 34 57 false (some 66) (.lt (some 66) (.pick (.tmp 61) (.tmp 65) (.const (.bool false)))),
    .o 35 (.lt (some 67) (.pick (.tmp 57) (.const (.bool true)) (.tmp 66))),
    .o 36 (.lt (some 68) (.mov (.tmp 67))),
    .gd 37 68 false (some 69) (.lt (some 69) (.fad (.tmp 3) 3)),
    .gd 38 68 false (some 70) (.lt (some 70) (.ld false 1 (.tmp 69))),
    .gd 39 68 false (some 71) (.lt (some 71) (.un .not (.tmp 70))),
    .gd 40 68 false (some 72) (.lt (some 72) (.mov (.tmp 71))),
    .gd 41 72 true (some 73) (.lt (some 73) (.fad (.tmp 2) 9)),
    .gd 42 72 true (some 74) (.lt (some 74) (.ld false 1 (.tmp 73))),
    .gd 43 72 true (some 75) (.lt (some 75) (.lenSl (.tmp 74))),
    .gd 44 72 true (some 76) (.lt (some 76) (.bin .gtr (.tmp 75) (.const (.int .i64 0)))),
    .gd 45 68 false (some 77) (.lt (some 77) (.pick (.tmp 72) (.tmp 76) (.const (.bool false)))),
    .o 46 (.lt (some 78) (.pick (.tmp 68) (.const (.bool true)) (.tmp 77))),
    .o 47 (.lt (some 4) (.mov (.tmp 78))),
    .g (.keep [4])]) (.ret))))))))
def model_field.rs : List Rs := [.sl 4]
theorem model_field.ok : isFn Try.prog model_field.id 79 model_field.ann model_field.ir model_field.rs := ⟨Try.f50, _, Try.func50, rfl, rfl, by kernel_rfl, by kernel_rfl⟩
-- hallmark/model.counts
def model_counts.ann : List (Nat × RA) := [(0, { gs := [], keep := some [0, 1] }), (1, { gs := [], keep := some [4] })]
def model_counts.ir : C := .seq (.reg 0 [.o 0 (.lt (some 4) (.mov (.const (.bool false)))),
    .g (.keep [0, 1])]) (.seq (.reg 0 [.o 0 (.lt (some 5) (.mov (.tmp 0))),
    .o 1 (.lt (some 6) (.un .not (.tmp 5))),
    .o 2 (.lt (some 7) (.mov (.tmp 6))),
    .gd 3 7 false (some 8) (.lt (some 8) (.mov (.tmp 1))),
    .gd 4 7 false (some 9) (.lt (some 9) (.bin .geq (.tmp 8) (.const (.int .i64 1)))),
    .gd 5 7 false (some 10) (.lt (some 10) (.mov (.tmp 9))),
    .gd 6 10 true (some 11) (.lt (some 11) (.mov (.tmp 1))),
    .gd 7 10 true (some 12) (.lt (some 12) (.bin .leq (.tmp 11) (.const (.int .i64 64)))),
    .gd 8 7 false (some 13) (.lt (some 13) (.pick (.tmp 10) (.tmp 12) (.const (.bool false)))),
    .o 9 (.lt (some 14) (.pick (.tmp 7) (.const (.bool true)) (.tmp 13))),
    .o 10 (.lt (some 4) (.mov (.tmp 14))),
    .g (.keep [4])]) (.ret))
def model_counts.rs : List Rs := [.sl 4]
theorem model_counts.ok : isFn Try.prog model_counts.id 15 model_counts.ann model_counts.ir model_counts.rs := ⟨Try.f51, _, Try.func51, rfl, rfl, by kernel_rfl, by kernel_rfl⟩
-- hallmark/model.wide
def model_wide.ann : List (Nat × RA) := [(0, { gs := [], keep := some [2, 3] }), (1, { gs := [], keep := some [4], aps := [(18, [1000001])] })]
def model_wide.ir : C := .seq (.reg 2 [.o 0 (.box (some 2) 0 10 (.tmp 0)),
    .o 1 (.box (some 3) 1 10 (.tmp 1)),
    .o 2 (.lt (some 4) (.mov (.const (.bool false)))),
    .g (.keep [2, 3])]) (.seq (.reg 0 [.o 0 (.lt (some 5) (.fad (.tmp 3) 3)),
    .o 1 (.lt (some 6) (.ld false 1 (.tmp 5))),
    .o 2 (.lt (some 7) (.mov (.tmp 6))),
    .gd 3 7 true (some 8) (.lt (some 8) (.fad (.tmp 2) 7)),
    .gd 4 7 true (some 9) (.lt (some 9) (.ld false 1 (.tmp 8))),
    .gd 5 7 true (some 10) (.lt (some 10) (.lenSl (.tmp 9))),
    .gd 6 7 true (some 11) (.lt (some 11) (.bin .gtr (.tmp 10) (.const (.int .i64 8)))),
    .gd 7 7 true (some 12) (.lt (some 12) (.mov (.tmp 11))),
    .gd 8 12 false (some 13) (.lt (some 13) (.fad (.tmp 2) 9)),
    .gd 9 12 false (some 14) (.lt (some 14) (.ld false 1 (.tmp 13))),
    .gd 10 12 false (some 15) (.lt (some 15) (.lenSl (.tmp 14))),
    .gd 11 12 false (some 16) (.call (some 16) model_counts.id [(.const (.bool true)), (.tmp 15)]),
    .gd 12 12 false (some 17) (.lt (some 17) (.un .not (.tmp 16))),
    .gd 13 7 true (some 18) (.lt (some 18) (.pick (.tmp 12) (.const (.bool true)) (.tmp 17))),
    .gd 14 7 true (some 19) (.lt (some 19) (.mov (.tmp 18))),
    .gd 15 19 false (some 20) (.lt (some 20) (.fad (.tmp 2) 9)),
    .gd 16 19 false (some 21) (.lt (some 21) (.ld false 1 (.tmp 20))),
    .gd 17 19 false (some 22) (.lt (some 22) (.mkfn (.func model_wide_1.id) [] [(.tmp 2)])),
    .gd 18 19 false (some 23) (.callb (some 23) (.func slices_ContainsFunc_LLint_Lint.id) [(.tmp 21), (.tmp 22)]),
    .gd 19 7 true (some 24) (.lt (some 24) (.pick (.tmp 19) (.const (.bool true)) (.tmp 23))),
    .o 20 (.lt (some 25) (.pick (.tmp 7) (.tmp 24) (.const (.bool false)))),
    .o 21 (.lt (some 4) (.mov (.tmp 25))),
    .g (.keep [4])]) (.ret))
def model_wide.rs : List Rs := [.sl 4]
theorem model_wide.ok : isFn Try.prog model_wide.id 26 model_wide.ann model_wide.ir model_wide.rs := ⟨Try.f52, _, Try.func52, rfl, rfl, by kernel_rfl, by kernel_rfl⟩
-- slices.ContainsFunc[[]int,int]
def slices_ContainsFunc_Lint_int.ann : List (Nat × RA) := [(0, { gs := [], keep := some [0, 1] }), (1, { gs := [], keep := some [4] })]
def slices_ContainsFunc_Lint_int.ir : C := .seq (.reg 0 [.o 0 (.lt (some 4) (.mov (.const (.bool false)))),
    .g (.keep [0, 1])]) (.seq (.reg 0 [.o 0 (.lt (some 5) (.mov (.tmp 0))),
    .o 1 (.lt (some 6) (.mov (.tmp 1))),
    .o 2 (.call (some 7) slices_IndexFunc_Lint_int.id [(.tmp 5), (.tmp 6)]),
    .o 3 (.lt (some 8) (.bin .geq (.tmp 7) (.const (.int .i64 0)))),
    .o 4 (.lt (some 4) (.mov (.tmp 8))),
    .g (.keep [4])]) (.ret))
def slices_ContainsFunc_Lint_int.rs : List Rs := [.sl 4]
theorem slices_ContainsFunc_Lint_int.ok : isFn Try.prog slices_ContainsFunc_Lint_int.id 9 slices_ContainsFunc_Lint_int.ann slices_ContainsFunc_Lint_int.ir slices_ContainsFunc_Lint_int.rs := ⟨Try.f53, _, Try.func53, rfl, rfl, by kernel_rfl, by kernel_rfl⟩
-- hallmark/model.within
def model_within.ann : List (Nat × RA) := [(0, { gs := [], keep := some [0, 1] }), (1, { gs := [], keep := some [4] })]
def model_within.ir : C := .seq (.reg 0 [.o 0 (.lt (some 4) (.mov (.const (.bool false)))),
    .g (.keep [0, 1])]) (.seq (.reg 0 [.o 0 (.lt (some 5) (.mov (.tmp 0))),
    .o 1 (.lt (some 6) (.mov (.tmp 1))),
    .o 2 (.lt (some 7) (.un .neg (.tmp 6))),
    .o 3 (.lt (some 8) (.bin .geq (.tmp 5) (.tmp 7))),
    .o 4 (.lt (some 9) (.mov (.tmp 8))),
    .gd 5 9 true (some 10) (.lt (some 10) (.mov (.tmp 0))),
    .gd 6 9 true (some 11) (.lt (some 11) (.mov (.tmp 1))),
    .gd 7 9 true (some 12) (.lt (some 12) (.bin .leq (.tmp 10) (.tmp 11))),
    .o 8 (.lt (some 13) (.pick (.tmp 9) (.tmp 12) (.const (.bool false)))),
    .o 9 (.lt (some 4) (.mov (.tmp 13))),
    .g (.keep [4])]) (.ret))
def model_within.rs : List Rs := [.sl 4]
theorem model_within.ok : isFn Try.prog model_within.id 14 model_within.ann model_within.ir model_within.rs := ⟨Try.f54, _, Try.func54, rfl, rfl, by kernel_rfl, by kernel_rfl⟩
-- slices.ContainsFunc[[][]int,[]int]
def slices_ContainsFunc_LLint_Lint.ann : List (Nat × RA) := [(0, { gs := [], keep := some [0, 1] }), (1, { gs := [], keep := some [4] })]
def slices_ContainsFunc_LLint_Lint.ir : C := .seq (.reg 0 [.o 0 (.lt (some 4) (.mov (.const (.bool false)))),
    .g (.keep [0, 1])]) (.seq (.reg 0 [.o 0 (.lt (some 5) (.mov (.tmp 0))),
    .o 1 (.lt (some 6) (.mov (.tmp 1))),
    .o 2 (.call (some 7) slices_IndexFunc_LLint_Lint.id [(.tmp 5), (.tmp 6)]),
    .o 3 (.lt (some 8) (.bin .geq (.tmp 7) (.const (.int .i64 0)))),
    .o 4 (.lt (some 4) (.mov (.tmp 8))),
    .g (.keep [4])]) (.ret))
def slices_ContainsFunc_LLint_Lint.rs : List Rs := [.sl 4]
theorem slices_ContainsFunc_LLint_Lint.ok : isFn Try.prog slices_ContainsFunc_LLint_Lint.id 9 slices_ContainsFunc_LLint_Lint.ann slices_ContainsFunc_LLint_Lint.ir slices_ContainsFunc_LLint_Lint.rs := ⟨Try.f55, _, Try.func55, rfl, rfl, by kernel_rfl, by kernel_rfl⟩
-- hallmark/model.lin
def model_lin.ann : List (Nat × RA) := [(0, { gs := [], keep := some [1, 2] }), (1, { gs := [], keep := some [4], ord := [0, 1, 2, 3, 4, 6, 7, 5, 8, 9] })]
def model_lin.ir : C := .seq (.reg 1 [.o 0 (.box (some 2) 0 10 (.tmp 0)),
    .o 1 (.lt (some 4) (.mov (.const (.bool false)))),
    .g (.keep [1, 2])]) (.seq (.reg 0 [.o 0 (.lt (some 5) (.fad (.tmp 2) 1)),
    .o 1 (.lt (some 6) (.ld false 1 (.tmp 5))),
    .o 2 (.lt (some 7) (.fad (.tmp 2) 2)),
    .o 3 (.lt (some 8) (.ld false 1 (.tmp 7))),
    .o 4 (.lt (some 9) (.mov (.tmp 1))),
    .o 6 (.lt (some 11) (.fad (.tmp 2) 3)),
    .o 7 (.lt (some 12) (.ld false 1 (.tmp 11))),
    .o 5 (.call (some 10) model_sum.id [(.tmp 8), (.tmp 9)]),
    .o 8 (.call (some 13) model_is.id [(.tmp 6), (.tmp 10), (.tmp 12)]),
    .o 9 (.lt (some 4) (.mov (.tmp 13))),
    .g (.keep [4])]) (.ret))
def model_lin.rs : List Rs := [.sl 4]
theorem model_lin.ok : isFn Try.prog model_lin.id 14 model_lin.ann model_lin.ir model_lin.rs := ⟨Try.f56, _, Try.func56, rfl, rfl, by kernel_rfl, by kernel_rfl⟩
-- hallmark/model.kinds$1
def model_kinds_1.ann : List (Nat × RA) := [(0, { gs := [], keep := some [1, 2] }), (1, { gs := [], keep := some [4], ord := [0, 1, 2, 4, 5, 6, 8, 9, 3, 7, 10, 11, 12] })]
def model_kinds_1.ir : C := .seq (.reg 1 [.o 0 (.box (some 2) 0 10 (.tmp 0)),
    .o 1 (.lt (some 4) (.mov (.const (.bool false)))),
    .g (.keep [1, 2])]) (.seq (.reg 0 [.o 0 (.lt (some 5) (.mov (.tmp 1))),
    .o 1 (.lt (some 6) (.fad (.tmp 2) 5)),
    .o 2 (.lt (some 7) (.ld false 1 (.tmp 6))),
    .o 4 (.lt (some 9) (.mov (.tmp 1))),
    .o 5 (.lt (some 10) (.fad (.tmp 2) 6)),
    .o 6 (.lt (some 11) (.ld false 1 (.tmp 10))),
    .o 8 (.lt (some 13) (.fad (.tmp 2) 3)),
    .o 9 (.lt (some 14) (.ld false 1 (.tmp 13))),
    .o 3 (.callv (some 8) (.tmp 5) [(.tmp 7)]),
    .o 7 (.callv (some 12) (.tmp 9) [(.tmp 11)]),
    .o 10 (.lt (some 15) (.bin .add (.tmp 12) (.tmp 14))),
    .o 11 (.lt (some 16) (.bin .neq (.tmp 8) (.tmp 15))),
    .o 12 (.lt (some 4) (.mov (.tmp 16))),
    .g (.keep [4])]) (.ret))
def model_kinds_1.rs : List Rs := [.sl 4]
theorem model_kinds_1.ok : isFn Try.prog model_kinds_1.id 17 model_kinds_1.ann model_kinds_1.ir model_kinds_1.rs := ⟨Try.f57, _, Try.func57, rfl, rfl, by kernel_rfl, by kernel_rfl⟩
-- hallmark/model.allDiff
def model_allDiff.ann : List (Nat × RA) := [(0, { gs := [], keep := some [1, 2] }), (1, { gs := [], keep := some [2, 5], aps := [(3, [1000002])] }), (2, { gs := [], keep := some [2, 5], aps := [(1, [1000000])] }), (3, { gs := [], keep := some [4], ord := [0, 3, 4, 5, 1, 2, 6, 7], aps := [(1, [1000003, 2, 15, 16])] })]
def model_allDiff.ir : C := .seq (.reg 1 [.o 0 (.box (some 2) 0 10 (.tmp 0)),
    .o 1 (.lt (some 4) (.mov (.const (.bool false)))),
    .g (.keep [1, 2])]) (.seq (.reg 0 [.o 0 (.lt (some 6) (.fad (.tmp 2) 7)),
    .o 1 (.lt (some 7) (.ld false 1 (.tmp 6))),
    .o 2 (.lt (some 8) (.mov (.tmp 1))),
    .o 3 (.callo (some 9) (.func model_each.id) [(.tmp 7), (.tmp 8)]),
    .o 4 (.lt (some 5) (.mov (.tmp 9))),
    .g (.keep [2, 5])]) (.seq (.reg 0 [.o 0 (.lt (some 10) (.mov (.tmp 5))),
    .o 1 (.callm (some 11) (.func slices_Sort_Lint_int.id) [(.tmp 10)]),
    .g (.keep [2, 5])]) (.seq (.reg 0 [.o 0 (.lt (some 12) (.mov (.tmp 5))),
    .o 3 (.lt (some 15) (.fad (.tmp 2) 7)),
    .o 4 (.lt (some 16) (.ld false 1 (.tmp 15))),
    .o 5 (.lt (some 17) (.lenSl (.tmp 16))),
    .o 1 (.calla [2, 15, 16] (some 13) (.func slices_Compact_Lint_int.id) [(.tmp 12)]),
    .o 2 (.lt (some 14) (.lenSl (.tmp 13))),
    .o 6 (.lt (some 18) (.bin .eql (.tmp 14) (.tmp 17))),
    .o 7 (.lt (some 4) (.mov (.tmp 18))),
    .g (.keep [4])]) (.ret))))
def model_allDiff.rs : List Rs := [.sl 4]
theorem model_allDiff.ok : isFn Try.prog model_allDiff.id 19 model_allDiff.ann model_allDiff.ir model_allDiff.rs := ⟨Try.f58, _, Try.func58, rfl, rfl, by kernel_rfl, by kernel_rfl⟩
-- hallmark/model.element
def model_element.ann : List (Nat × RA) := [(0, { gs := [], keep := some [1, 2] }), (1, { gs := [], keep := some [1, 2, 5] }), (2, { gs := [], keep := some [4], ord := [0, 1, 2, 3, 4, 5, 6, 7, 8, 9, 10, 11, 12, 14, 15, 16, 17, 18, 13, 19, 20, 21] })]
def model_element.ir : C := .seq (.reg 1 [.o 0 (.box (some 2) 0 10 (.tmp 0)),
    .o 1 (.lt (some 4) (.mov (.const (.bool false)))),
    .g (.keep [1, 2])]) (.seq (.reg 0 [.o 0 (.lt (some 6) (.mov (.tmp 1))),
    .o 1 (.lt (some 7) (.fad (.tmp 2) 5)),
    .o 2 (.lt (some 8) (.ld false 1 (.tmp 7))),
    .o 3 (.callv (some 9) (.tmp 6) [(.tmp 8)]),
    .o 4 (.lt (some 5) (.mov (.tmp 9))),
    .g (.keep [1, 2, 5])]) (.seq (.reg 0 [.o 0 (.lt (some 10) (.mov (.tmp 5))),
    .o 1 (.lt (some 11) (.bin .geq (.tmp 10) (.const (.int .i64 0)))),
    .o 2 (.lt (some 12) (.mov (.tmp 11))),
    .gd 3 12 true (some 13) (.lt (some 13) (.mov (.tmp 5))),
    .gd 4 12 true (some 14) (.lt (some 14) (.fad (.tmp 2) 8)),
    .gd 5 12 true (some 15) (.lt (some 15) (.ld false 1 (.tmp 14))),
    .gd 6 12 true (some 16) (.lt (some 16) (.lenSl (.tmp 15))),
    .gd 7 12 true (some 17) (.lt (some 17) (.bin .lss (.tmp 13) (.tmp 16))),
    .o 8 (.lt (some 18) (.pick (.tmp 12) (.tmp 17) (.const (.bool false)))),
    .o 9 (.lt (some 19) (.mov (.tmp 18))),
    .gd 10 19 true (some 20) (.lt (some 20) (.mov (.tmp 1))),
    .gd 11 19 true (some 21) (.lt (some 21) (.fad (.tmp 2) 6)),
    .gd 12 19 true (some 22) (.lt (some 22) (.ld false 1 (.tmp 21))),
    .gd 14 19 true (some 24) (.lt (some 24) (.fad (.tmp 2) 8)),
    .gd 15 19 true (some 25) (.lt (some 25) (.ld false 1 (.tmp 24))),
    .gd 16 19 true (some 26) (.lt (some 26) (.mov (.tmp 5))),
    .gd 17 19 true (some 27) (.lt (some 27) (.ixS 1 (.tmp 25) (.tmp 26))),
    .gd 18 19 true (some 28) (.lt (some 28) (.ld false 1 (.tmp 27))),
    .gd 13 19 true (some 23) (.callv (some 23) (.tmp 20) [(.tmp 22)]),
    .gd 19 19 true (some 29) (.lt (some 29) (.bin .eql (.tmp 23) (.tmp 28))),
    .o 20 (.lt (some 30) (.pick (.tmp 19) (.tmp 29) (.const (.bool false)))),
    .o 21 (.lt (some 4) (.mov (.tmp 30))),
    .g (.keep [4])]) (.ret)))
def model_element.rs : List Rs := [.sl 4]
theorem model_element.ok : isFn Try.prog model_element.id 31 model_element.ann model_element.ir model_element.rs := ⟨Try.f59, _, Try.func59, rfl, rfl, by kernel_rfl, by kernel_rfl⟩
-- hallmark/model.kinds$2
def model_kinds_2.ann : List (Nat × RA) := [(0, { gs := [], keep := some [1, 2] }), (1, { gs := [], keep := some [4], ord := [0, 1, 2, 4, 5, 6, 3, 7, 8, 9, 10] })]
def model_kinds_2.ir : C := .seq (.reg 1 [.o 0 (.box (some 2) 0 10 (.tmp 0)),
    .o 1 (.lt (some 4) (.mov (.const (.bool false)))),
    .g (.keep [1, 2])]) (.seq (.reg 0 [.o 0 (.lt (some 5) (.mov (.tmp 1))),
    .o 1 (.lt (some 6) (.fad (.tmp 2) 6)),
    .o 2 (.lt (some 7) (.ld false 1 (.tmp 6))),
    .o 4 (.lt (some 9) (.fad (.tmp 2) 7)),
    .o 5 (.lt (some 10) (.ld false 1 (.tmp 9))),
    .o 6 (.lt (some 11) (.mov (.tmp 1))),
    .o 3 (.callv (some 8) (.tmp 5) [(.tmp 7)]),
    .o 7 (.call (some 12) model_each.id [(.tmp 10), (.tmp 11)]),
    .o 8 (.call (some 13) slices_Max_Lint_int.id [(.tmp 12)]),
    .o 9 (.lt (some 14) (.bin .eql (.tmp 8) (.tmp 13))),
    .o 10 (.lt (some 4) (.mov (.tmp 14))),
    .g (.keep [4])]) (.ret))
def model_kinds_2.rs : List Rs := [.sl 4]
theorem model_kinds_2.ok : isFn Try.prog model_kinds_2.id 15 model_kinds_2.ann model_kinds_2.ir model_kinds_2.rs := ⟨Try.f60, _, Try.func60, rfl, rfl, by kernel_rfl, by kernel_rfl⟩
-- slices.Max[[]int,int]
def slices_Max_Lint_int.ann : List (Nat × RA) := [(0, { gs := [], keep := some [0] }), (1, { gs := [], keep := some [0, 7] }), (2, { gs := [], keep := some [0] }), (3, { gs := [], keep := some [0, 3] }), (4, { gs := [], keep := some [0, 3, 4] }), (5, { gs := [], keep := some [0, 3, 4, 15] }), (6, { gs := [], keep := some [0, 3, 4] }), (7, { gs := [], keep := some [0, 3, 4] }), (8, { gs := [], keep := some [2] })]
def slices_Max_Lint_int.b0 : C := .seq (.seq (.reg 0 [.o 0 (.lt (some 12) (.mov (.tmp 4))),
    .o 1 (.lt (some 13) (.mov (.tmp 0))),
    .o 2 (.lt (some 14) (.lenSl (.tmp 13))),
    .o 3 (.lt (some 15) (.bin .lss (.tmp 12) (.tmp 14))),
    .g (.keep [0, 3, 4, 15])]) (.cond (.tmp 15) (.skip) (.exit 0))) (.seq (.block 1 (.reg 0 [.o 0 (.lt (some 18) (.mov (.tmp 3))),
    .o 1 (.lt (some 19) (.mov (.tmp 0))),
    .o 2 (.lt (some 20) (.mov (.tmp 4))),
    .o 3 (.lt (some 21) (.ixS 1 (.tmp 19) (.tmp 20))),
    .o 4 (.lt (some 22) (.ld false 1 (.tmp 21))),
    .o 5 (.lt (some 23) (.mxm true [(.tmp 18), (.tmp 22)])),
    .o 6 (.lt (some 3) (.mov (.tmp 23))),
    .g (.keep [0, 3, 4])])) (.reg 0 [.o 0 (.lt (some 16) (.mov (.tmp 4))),
    .o 1 (.lt (some 17) (.bin .add (.tmp 16) (.const (.int .i64 1)))),
    .o 2 (.lt (some 4) (.mov (.tmp 17))),
    .g (.keep [0, 3, 4])]))
def slices_Max_Lint_int.ir : C := .seq (.reg 0 [.o 0 (.lt (some 2) (.mov (.const (.int .i64 0)))),
    .g (.keep [0])]) (.seq (.seq (.reg 0 [.o 0 (.lt (some 5) (.mov (.tmp 0))),
    .o 1 (.lt (some 6) (.lenSl (.tmp 5))),
    .o 2 (.lt (some 7) (.bin .lss (.tmp 6) (.const (.int .i64 1)))),
    .g (.keep [0, 7])]) (.cond (.tmp 7) (.reg 0 [.o 0 (.lt (some 8) (.mkif 9 (.const (.string { data := #[115, 108, 105, 99, 101, 115, 46, 77, 97, 120, 58, 32, 101, 109, 112, 116, 121, 32, 108, 105, 115, 116] })))),
    .o 1 (.pan),
    .g (.keep [0])]) (.skip))) (.seq (.reg 0 [.o 0 (.lt (some 9) (.mov (.tmp 0))),
    .o 1 (.lt (some 10) (.ixS 1 (.tmp 9) (.const (.int .i64 0)))),
    .o 2 (.lt (some 11) (.ld false 1 (.tmp 10))),
    .o 3 (.lt (some 3) (.mov (.tmp 11))),
    .g (.keep [0, 3])]) (.seq (.seq (.reg 0 [.o 0 (.lt (some 4) (.mov (.const (.int .i64 1)))),
    .g (.keep [0, 3, 4])]) (.block 0 (.loop slices_Max_Lint_int.b0))) (.seq (.reg 0 [.o 0 (.lt (some 24) (.mov (.tmp 3))),
    .o 1 (.lt (some 2) (.mov (.tmp 24))),
    .g (.keep [2])]) (.ret)))))
def slices_Max_Lint_int.rs : List Rs := [.sl 2]
theorem slices_Max_Lint_int.ok : isFn Try.prog slices_Max_Lint_int.id 25 slices_Max_Lint_int.ann slices_Max_Lint_int.ir slices_Max_Lint_int.rs := ⟨Try.f61, _, Try.func61, rfl, rfl, by kernel_rfl, by kernel_rfl⟩
-- hallmark/model.each
def model_each.ann : List (Nat × RA) := [(0, { gs := [], keep := some [0, 1] }), (1, { gs := [], keep := some [0, 1, 5] }), (2, { gs := [], keep := some [1, 5, 8, 9, 10] }), (3, { gs := [], keep := some [1, 5, 8, 9, 10, 11] }), (4, { gs := [], keep := some [1, 5, 7, 8, 9, 10] }), (5, { gs := [], keep := some [1, 5, 8, 9, 10] }), (6, { gs := [], keep := some [1, 5, 8, 9, 10] }), (7, { gs := [(0, [.nilv 5 1])], keep := some [4] })]
def model_each.b0 : C := .seq (.reg 0 [.o 0 (.lt (some 11) (.bin .lss (.tmp 10) (.tmp 9))),
    .g (.keep [1, 5, 8, 9, 10, 11])]) (.seq (.cond (.tmp 11) (.skip) (.exit 0)) (.seq (.block 1 (.seq (.reg 0 [.o 0 (.lt (some 12) (.ixS 1 (.tmp 8) (.tmp 10))),
    .o 1 (.lt (some 13) (.ld false 1 (.tmp 12))),
    .o 2 (.lt (some 7) (.mov (.tmp 13))),
    .g (.keep [1, 5, 7, 8, 9, 10])]) (.reg 2 [.o 0 (.lt (some 14) (.mov (.tmp 5))),
    .o 1 (.lt (some 15) (.mov (.tmp 1))),
    .o 2 (.lt (some 16) (.mov (.tmp 7))),
    .o 3 (.callv (some 17) (.tmp 15) [(.tmp 16)]),
    .o 4 (.bsl (some 18) 0 1 1 [.a (.int .i64 0)] [(0, (.tmp 17))]),
    .o 5 (.app [] (some 19) 1 1 8 (.tmp 14) (.tmp 18)),
    .o 6 (.lt (some 5) (.mov (.tmp 19))),
    .g (.keep [1, 5, 8, 9, 10])]))) (.reg 0 [.o 0 (.lt (some 20) (.bin .add (.tmp 10) (.const (.int .i64 1)))),
    .o 1 (.lt (some 10) (.mov (.tmp 20))),
    .g (.keep [1, 5, 8, 9, 10])])))
def model_each.ir : C := .seq (.reg 0 [.o 0 (.lt (some 4) (.mov (.const (.slice none 0 0)))),
    .g (.keep [0, 1])]) (.seq (.reg 0 [.o 0 (.lt (some 5) (.mov (.const (.slice none 0 0)))),
    .g (.keep [0, 1, 5])]) (.seq (.seq (.reg 0 [.o 0 (.lt (some 8) (.mov (.tmp 0))),
    .o 1 (.lt (some 9) (.lenSl (.tmp 8))),
    .o 2 (.lt (some 10) (.mov (.const (.int .i64 0)))),
    .g (.keep [1, 5, 8, 9, 10])]) (.block 0 (.loop model_each.b0))) (.seq (.reg 0 [.g (.nilv 5 1),
    .o 0 (.lt (some 21) (.mov (.tmp 5))),
    .o 1 (.lt (some 4) (.mov (.tmp 21))),
    .g (.keep [4])]) (.ret))))
def model_each.rs : List Rs := [.sl 4]
theorem model_each.ok : isFn Try.prog model_each.id 22 model_each.ann model_each.ir model_each.rs := ⟨Try.f62, _, Try.func62, rfl, rfl, by kernel_rfl, by kernel_rfl⟩
-- hallmark/model.kinds$3
def model_kinds_3.ann : List (Nat × RA) := [(0, { gs := [], keep := some [1, 2] }), (1, { gs := [], keep := some [4], ord := [0, 1, 2, 4, 5, 6, 3, 7, 8, 9, 10] })]
def model_kinds_3.ir : C := .seq (.reg 1 [.o 0 (.box (some 2) 0 10 (.tmp 0)),
    .o 1 (.lt (some 4) (.mov (.const (.bool false)))),
    .g (.keep [1, 2])]) (.seq (.reg 0 [.o 0 (.lt (some 5) (.mov (.tmp 1))),
    .o 1 (.lt (some 6) (.fad (.tmp 2) 6)),
    .o 2 (.lt (some 7) (.ld false 1 (.tmp 6))),
    .o 4 (.lt (some 9) (.fad (.tmp 2) 7)),
    .o 5 (.lt (some 10) (.ld false 1 (.tmp 9))),
    .o 6 (.lt (some 11) (.mov (.tmp 1))),
    .o 3 (.callv (some 8) (.tmp 5) [(.tmp 7)]),
    .o 7 (.call (some 12) model_each.id [(.tmp 10), (.tmp 11)]),
    .o 8 (.call (some 13) slices_Min_Lint_int.id [(.tmp 12)]),
    .o 9 (.lt (some 14) (.bin .eql (.tmp 8) (.tmp 13))),
    .o 10 (.lt (some 4) (.mov (.tmp 14))),
    .g (.keep [4])]) (.ret))
def model_kinds_3.rs : List Rs := [.sl 4]
theorem model_kinds_3.ok : isFn Try.prog model_kinds_3.id 15 model_kinds_3.ann model_kinds_3.ir model_kinds_3.rs := ⟨Try.f63, _, Try.func63, rfl, rfl, by kernel_rfl, by kernel_rfl⟩
-- slices.Min[[]int,int]
def slices_Min_Lint_int.ann : List (Nat × RA) := [(0, { gs := [], keep := some [0] }), (1, { gs := [], keep := some [0, 7] }), (2, { gs := [], keep := some [0] }), (3, { gs := [], keep := some [0, 3] }), (4, { gs := [], keep := some [0, 3, 4] }), (5, { gs := [], keep := some [0, 3, 4, 15] }), (6, { gs := [], keep := some [0, 3, 4] }), (7, { gs := [], keep := some [0, 3, 4] }), (8, { gs := [], keep := some [2] })]
def slices_Min_Lint_int.b0 : C := .seq (.seq (.reg 0 [.o 0 (.lt (some 12) (.mov (.tmp 4))),
    .o 1 (.lt (some 13) (.mov (.tmp 0))),
    .o 2 (.lt (some 14) (.lenSl (.tmp 13))),
    .o 3 (.lt (some 15) (.bin .lss (.tmp 12) (.tmp 14))),
    .g (.keep [0, 3, 4, 15])]) (.cond (.tmp 15) (.skip) (.exit 0))) (.seq (.block 1 (.reg 0 [.o 0 (.lt (some 18) (.mov (.tmp 3))),
    .o 1 (.lt (some 19) (.mov (.tmp 0))),
    .o 2 (.lt (some 20) (.mov (.tmp 4))),
    .o 3 (.lt (some 21) (.ixS 1 (.tmp 19) (.tmp 20))),
    .o 4 (.lt (some 22) (.ld false 1 (.tmp 21))),
    .o 5 (.lt (some 23) (.mxm false [(.tmp 18), (.tmp 22)])),
    .o 6 (.lt (some 3) (.mov (.tmp 23))),
    .g (.keep [0, 3, 4])])) (.reg 0 [.o 0 (.lt (some 16) (.mov (.tmp 4))),
    .o 1 (.lt (some 17) (.bin .add (.tmp 16) (.const (.int .i64 1)))),
    .o 2 (.lt (some 4) (.mov (.tmp 17))),
    .g (.keep [0, 3, 4])]))
def slices_Min_Lint_int.ir : C := .seq (.reg 0 [.o 0 (.lt (some 2) (.mov (.const (.int .i64 0)))),
    .g (.keep [0])]) (.seq (.seq (.reg 0 [.o 0 (.lt (some 5) (.mov (.tmp 0))),
    .o 1 (.lt (some 6) (.lenSl (.tmp 5))),
    .o 2 (.lt (some 7) (.bin .lss (.tmp 6) (.const (.int .i64 1)))),
    .g (.keep [0, 7])]) (.cond (.tmp 7) (.reg 0 [.o 0 (.lt (some 8) (.mkif 9 (.const (.string { data := #[115, 108, 105, 99, 101, 115, 46, 77, 105, 110, 58, 32, 101, 109, 112, 116, 121, 32, 108, 105, 115, 116] })))),
    .o 1 (.pan),
    .g (.keep [0])]) (.skip))) (.seq (.reg 0 [.o 0 (.lt (some 9) (.mov (.tmp 0))),
    .o 1 (.lt (some 10) (.ixS 1 (.tmp 9) (.const (.int .i64 0)))),
    .o 2 (.lt (some 11) (.ld false 1 (.tmp 10))),
    .o 3 (.lt (some 3) (.mov (.tmp 11))),
    .g (.keep [0, 3])]) (.seq (.seq (.reg 0 [.o 0 (.lt (some 4) (.mov (.const (.int .i64 1)))),
    .g (.keep [0, 3, 4])]) (.block 0 (.loop slices_Min_Lint_int.b0))) (.seq (.reg 0 [.o 0 (.lt (some 24) (.mov (.tmp 3))),
    .o 1 (.lt (some 2) (.mov (.tmp 24))),
    .g (.keep [2])]) (.ret)))))
def slices_Min_Lint_int.rs : List Rs := [.sl 2]
theorem slices_Min_Lint_int.ok : isFn Try.prog slices_Min_Lint_int.id 25 slices_Min_Lint_int.ann slices_Min_Lint_int.ir slices_Min_Lint_int.rs := ⟨Try.f64, _, Try.func64, rfl, rfl, by kernel_rfl, by kernel_rfl⟩
-- hallmark/model.reif
def model_reif.ann : List (Nat × RA) := [(0, { gs := [], keep := some [1, 2] }), (1, { gs := [], keep := some [1, 2, 5] }), (2, { gs := [], keep := some [5, 16], ord := [0, 1, 2, 4, 5, 3, 6] }), (3, { gs := [], keep := some [4] }), (4, { gs := [], keep := some [4] })]
def model_reif.ir : C := .seq (.reg 1 [.o 0 (.box (some 2) 0 10 (.tmp 0)),
    .o 1 (.lt (some 4) (.mov (.const (.bool false)))),
    .g (.keep [1, 2])]) (.seq (.reg 0 [.o 0 (.lt (some 6) (.mov (.tmp 1))),
    .o 1 (.lt (some 7) (.fad (.tmp 2) 5)),
    .o 2 (.lt (some 8) (.ld false 1 (.tmp 7))),
    .o 3 (.callv (some 9) (.tmp 6) [(.tmp 8)]),
    .o 4 (.lt (some 5) (.mov (.tmp 9))),
    .g (.keep [1, 2, 5])]) (.seq (.seq (.reg 0 [.o 0 (.lt (some 10) (.fad (.tmp 2) 2)),
    .o 1 (.lt (some 11) (.ld false 1 (.tmp 10))),
    .o 2 (.lt (some 12) (.mov (.tmp 1))),
    .o 4 (.lt (some 14) (.fad (.tmp 2) 3)),
    .o 5 (.lt (some 15) (.ld false 1 (.tmp 14))),
    .o 3 (.call (some 13) model_sum.id [(.tmp 11), (.tmp 12)]),
    .o 6 (.lt (some 16) (.bin .leq (.tmp 13) (.tmp 15))),
    .g (.keep [5, 16])]) (.cond (.tmp 16) (.seq (.reg 0 [.o 0 (.lt (some 17) (.mov (.tmp 5))),
    .o 1 (.lt (some 18) (.bin .eql (.tmp 17) (.const (.int .i64 1)))),
    .o 2 (.lt (some 4) (.mov (.tmp 18))),
    .g (.keep [4])]) (.ret)) (.skip))) (.seq (.reg 0 [.o 0 (.lt (some 19) (.mov (.tmp 5))),
    .o 1 (.lt (some 20) (.bin .eql (.tmp 19) (.const (.int .i64 0)))),
    .o 2 (.lt (some 4) (.mov (.tmp 20))),
    .g (.keep [4])]) (.ret))))
def model_reif.rs : List Rs := [.sl 4]
theorem model_reif.ok : isFn Try.prog model_reif.id 21 model_reif.ann model_reif.ir model_reif.rs := ⟨Try.f65, _, Try.func65, rfl, rfl, by kernel_rfl, by kernel_rfl⟩
-- hallmark/model.table
def model_table.ann : List (Nat × RA) := [(0, { gs := [], keep := some [1, 2] }), (1, { gs := [], keep := some [2, 5] }), (2, { gs := [], keep := some [4], aps := [(3, [1000001])] })]
def model_table.ir : C := .seq (.reg 1 [.o 0 (.box (some 2) 0 10 (.tmp 0)),
    .o 1 (.lt (some 4) (.mov (.const (.bool false)))),
    .g (.keep [1, 2])]) (.seq (.reg 1 [.o 0 (.lt (some 6) (.fad (.tmp 2) 7)),
    .o 1 (.lt (some 7) (.ld false 1 (.tmp 6))),
    .o 2 (.lt (some 8) (.mov (.tmp 1))),
    .o 3 (.call (some 9) model_each.id [(.tmp 7), (.tmp 8)]),
    .o 4 (.alloc (some 5) 0 1 [.a (.slice none 0 0)]),
    .o 5 (.store [] 1 (.tmp 5) (.tmp 9)),
    .g (.keep [2, 5])]) (.seq (.reg 0 [.o 0 (.lt (some 10) (.fad (.tmp 2) 9)),
    .o 1 (.lt (some 11) (.ld false 1 (.tmp 10))),
    .o 2 (.lt (some 12) (.mkfn (.func model_table_1.id) [] [(.tmp 5)])),
    .o 3 (.callb (some 13) (.func slices_ContainsFunc_LLint_Lint.id) [(.tmp 11), (.tmp 12)]),
    .o 4 (.lt (some 4) (.mov (.tmp 13))),
    .g (.keep [4])]) (.ret)))
def model_table.rs : List Rs := [.sl 4]
theorem model_table.ok : isFn Try.prog model_table.id 14 model_table.ann model_table.ir model_table.rs := ⟨Try.f66, _, Try.func66, rfl, rfl, by kernel_rfl, by kernel_rfl⟩
-- hallmark/model.count
def model_count.ann : List (Nat × RA) := [(0, { gs := [], keep := some [1, 2] }), (1, { gs := [], keep := some [1, 2, 5] }), (2, { gs := [], keep := some [2, 5, 11, 12, 13] }), (3, { gs := [], keep := some [2, 5, 11, 12, 13, 14] }), (4, { gs := [], keep := some [2, 5, 7, 11, 12, 13] }), (5, { gs := [], keep := some [2, 5, 11, 12, 13, 20] }), (6, { gs := [], keep := some [2, 5, 11, 12, 13] }), (7, { gs := [], keep := some [2, 5, 11, 12, 13] }), (8, { gs := [], keep := some [4] })]
def model_count.b0 : C := .seq (.reg 0 [.o 0 (.lt (some 14) (.bin .lss (.tmp 13) (.tmp 12))),
    .g (.keep [2, 5, 11, 12, 13, 14])]) (.seq (.cond (.tmp 14) (.skip) (.exit 0)) (.seq (.block 1 (.seq (.reg 0 [.o 0 (.lt (some 15) (.ixS 1 (.tmp 11) (.tmp 13))),
    .o 1 (.lt (some 16) (.ld false 1 (.tmp 15))),
    .o 2 (.lt (some 7) (.mov (.tmp 16))),
    .g (.keep [2, 5, 7, 11, 12, 13])]) (.seq (.reg 0 [.o 0 (.lt (some 17) (.mov (.tmp 7))),
    .o 1 (.lt (some 18) (.fad (.tmp 2) 4)),
    .o 2 (.lt (some 19) (.ld false 1 (.tmp 18))),
    .o 3 (.lt (some 20) (.bin .eql (.tmp 17) (.tmp 19))),
    .g (.keep [2, 5, 11, 12, 13, 20])]) (.cond (.tmp 20) (.reg 0 [.o 0 (.lt (some 21) (.mov (.tmp 5))),
    .o 1 (.lt (some 22) (.bin .add (.tmp 21) (.const (.int .i64 1)))),
    .o 2 (.lt (some 5) (.mov (.tmp 22))),
    .g (.keep [2, 5, 11, 12, 13])]) (.skip))))) (.reg 0 [.o 0 (.lt (some 23) (.bin .add (.tmp 13) (.const (.int .i64 1)))),
    .o 1 (.lt (some 13) (.mov (.tmp 23))),
    .g (.keep [2, 5, 11, 12, 13])])))
def model_count.ir : C := .seq (.reg 1 [.o 0 (.box (some 2) 0 10 (.tmp 0)),
    .o 1 (.lt (some 4) (.mov (.const (.bool false)))),
    .g (.keep [1, 2])]) (.seq (.reg 0 [.o 0 (.lt (some 5) (.mov (.const (.int .i64 0)))),
    .g (.keep [1, 2, 5])]) (.seq (.seq (.reg 0 [.o 0 (.lt (some 8) (.fad (.tmp 2) 7)),
    .o 1 (.lt (some 9) (.ld false 1 (.tmp 8))),
    .o 2 (.lt (some 10) (.mov (.tmp 1))),
    .o 3 (.call (some 11) model_each.id [(.tmp 9), (.tmp 10)]),
    .o 4 (.lt (some 12) (.lenSl (.tmp 11))),
    .o 5 (.lt (some 13) (.mov (.const (.int .i64 0)))),
    .g (.keep [2, 5, 11, 12, 13])]) (.block 0 (.loop model_count.b0))) (.seq (.reg 0 [.o 0 (.lt (some 24) (.fad (.tmp 2) 1)),
    .o 1 (.lt (some 25) (.ld false 1 (.tmp 24))),
    .o 2 (.lt (some 26) (.mov (.tmp 5))),
    .o 3 (.lt (some 27) (.fad (.tmp 2) 3)),
    .o 4 (.lt (some 28) (.ld false 1 (.tmp 27))),
    .o 5 (.call (some 29) model_is.id [(.tmp 25), (.tmp 26), (.tmp 28)]),
    .o 6 (.lt (some 4) (.mov (.tmp 29))),
    .g (.keep [4])]) (.ret))))
def model_count.rs : List Rs := [.sl 4]
theorem model_count.ok : isFn Try.prog model_count.id 30 model_count.ann model_count.ir model_count.rs := ⟨Try.f67, _, Try.func67, rfl, rfl, by kernel_rfl, by kernel_rfl⟩
-- slices.IndexFunc[[]hallmark/api.Con,hallmark/api.Con]
def slices_IndexFunc_Lapi_Con_api_Con.ann : List (Nat × RA) := [(0, { gs := [], keep := some [0, 1] }), (1, { gs := [], keep := some [0, 1, 7, 8] }), (2, { gs := [], keep := some [0, 1, 7, 8, 9] }), (3, { gs := [], keep := some [0, 1, 5, 7, 8] }), (4, { gs := [], keep := some [0, 1, 5, 7, 8, 16] }), (5, { gs := [], keep := some [4] }), (6, { gs := [], keep := some [0, 1, 7, 8] }), (7, { gs := [], keep := some [4] })]
def slices_IndexFunc_Lapi_Con_api_Con.b0 : C := .seq (.reg 0 [.o 0 (.lt (some 9) (.bin .lss (.tmp 8) (.tmp 7))),
    .g (.keep [0, 1, 7, 8, 9])]) (.seq (.cond (.tmp 9) (.skip) (.exit 0)) (.seq (.block 1 (.seq (.reg 0 [.o 0 (.lt (some 10) (.mov (.tmp 8))),
    .o 1 (.lt (some 5) (.mov (.tmp 10))),
    .g (.keep [0, 1, 5, 7, 8])]) (.seq (.reg 0 [.o 0 (.lt (some 11) (.mov (.tmp 1))),
    .o 1 (.lt (some 12) (.mov (.tmp 0))),
    .o 2 (.lt (some 13) (.mov (.tmp 5))),
    .o 3 (.lt (some 14) (.ixS 10 (.tmp 12) (.tmp 13))),
    .o 4 (.lt (some 15) (.ld true 10 (.tmp 14))),
    .o 5 (.callv (some 16) (.tmp 11) [(.tmp 15)]),
    .g (.keep [0, 1, 5, 7, 8, 16])]) (.cond (.tmp 16) (.seq (.reg 0 [.o 0 (.lt (some 17) (.mov (.tmp 5))),
    .o 1 (.lt (some 4) (.mov (.tmp 17))),
    .g (.keep [4])]) (.ret)) (.skip))))) (.reg 0 [.o 0 (.lt (some 18) (.bin .add (.tmp 8) (.const (.int .i64 1)))),
    .o 1 (.lt (some 8) (.mov (.tmp 18))),
    .g (.keep [0, 1, 7, 8])])))
def slices_IndexFunc_Lapi_Con_api_Con.ir : C := .seq (.reg 0 [.o 0 (.lt (some 4) (.mov (.const (.int .i64 0)))),
    .g (.keep [0, 1])]) (.seq (.seq (.reg 0 [.o 0 (.lt (some 6) (.mov (.tmp 0))),
    .o 1 (.lt (some 7) (.lenSl (.tmp 6))),
    .o 2 (.lt (some 8) (.mov (.const (.int .i64 0)))),
    .g (.keep [0, 1, 7, 8])]) (.block 0 (.loop slices_IndexFunc_Lapi_Con_api_Con.b0))) (.seq (.reg 0 [.o 0 (.lt (some 4) (.mov (.const (.int .i64 (-1))))),
    .g (.keep [4])]) (.ret)))
def slices_IndexFunc_Lapi_Con_api_Con.rs : List Rs := [.sl 4]
theorem slices_IndexFunc_Lapi_Con_api_Con.ok : isFn Try.prog slices_IndexFunc_Lapi_Con_api_Con.id 19 slices_IndexFunc_Lapi_Con_api_Con.ann slices_IndexFunc_Lapi_Con_api_Con.ir slices_IndexFunc_Lapi_Con_api_Con.rs := ⟨Try.f68, _, Try.func68, rfl, rfl, by kernel_rfl, by kernel_rfl⟩
-- (*hallmark/hallmarkroom.Count).Lists
def hallmarkroom_Count_Lists.ann : List (Nat × RA) := [(0, { gs := [], keep := some [0, 1, 4] }), (1, { gs := [], keep := some [0, 1, 4, 12], aps := [(6, [1000000])] }), (2, { gs := [], keep := some [0, 1, 4] }), (3, { gs := [], keep := some [0, 1, 4], aps := [(1, [1000000])] }), (4, { gs := [], keep := some [0, 1, 4], aps := [(6, [1000000])] })]
def hallmarkroom_Count_Lists.b0 : C := .seq (.seq (.reg 0 [.o 0 (.lt (some 5) (.mov (.tmp 4))),
    .o 1 (.lt (some 6) (.mov (.tmp 1))),
    .o 2 (.lt (some 7) (.lenSl (.tmp 6))),
    .o 3 (.lt (some 8) (.bin .lss (.tmp 5) (.tmp 7))),
    .o 4 (.lt (some 9) (.mov (.tmp 8))),
    .gd 5 9 true (some 10) (.lt (some 10) (.mov (.tmp 0))),
    .gd 6 9 true (some 11) (.callm (some 11) (.func hallmarkroom_Count_Ok.id) [(.tmp 10)]),
    .o 7 (.lt (some 12) (.pick (.tmp 9) (.tmp 11) (.const (.bool false)))),
    .g (.keep [0, 1, 4, 12])]) (.cond (.tmp 12) (.skip) (.exit 0))) (.seq (.block 1 (.seq (.reg 0 [.o 0 (.lt (some 15) (.mov (.tmp 0))),
    .o 1 (.callm (some 16) (.func hallmarkroom_Count_Add.id) [(.tmp 15), (.const (.int .i64 1))]),
    .g (.keep [0, 1, 4])]) (.reg 0 [.o 0 (.lt (some 17) (.mov (.tmp 0))),
    .o 1 (.lt (some 18) (.mov (.tmp 1))),
    .o 2 (.lt (some 19) (.mov (.tmp 4))),
    .o 3 (.lt (some 20) (.ixS 1 (.tmp 18) (.tmp 19))),
    .o 4 (.lt (some 21) (.ld false 1 (.tmp 20))),
    .o 5 (.lt (some 22) (.lenSl (.tmp 21))),
    .o 6 (.callm (some 23) (.func hallmarkroom_Count_Add.id) [(.tmp 17), (.tmp 22)]),
    .g (.keep [0, 1, 4])]))) (.reg 0 [.o 0 (.lt (some 13) (.mov (.tmp 4))),
    .o 1 (.lt (some 14) (.bin .add (.tmp 13) (.const (.int .i64 1)))),
    .o 2 (.lt (some 4) (.mov (.tmp 14))),
    .g (.keep [0, 1, 4])]))
def hallmarkroom_Count_Lists.ir : C := .seq (.reg 0 [.o 0 (.lt (some 4) (.mov (.const (.int .i64 0)))),
    .g (.keep [0, 1, 4])]) (.block 0 (.loop hallmarkroom_Count_Lists.b0))
def hallmarkroom_Count_Lists.rs : List Rs := []
theorem hallmarkroom_Count_Lists.ok : isFn Try.prog hallmarkroom_Count_Lists.id 24 hallmarkroom_Count_Lists.ann hallmarkroom_Count_Lists.ir hallmarkroom_Count_Lists.rs := ⟨Try.f69, _, Try.func69, rfl, rfl, by kernel_rfl, by kernel_rfl⟩
-- hallmark/model.isName
def model_isName.ann : List (Nat × RA) := [(0, { gs := [], keep := some [0] }), (1, { gs := [], keep := some [0, 7] }), (2, { gs := [], keep := some [0, 7, 8, 9] }), (3, { gs := [], keep := some [0, 3, 4, 7] }), (4, { gs := [], keep := some [0, 3, 4, 5, 7] }), (5, { gs := [], keep := some [0, 7, 43] }), (6, { gs := [], keep := some [2] }), (7, { gs := [], keep := some [2] })]
def model_isName.b0 : C := .seq (.reg 0 [.o 0 (.nxt (some 8) (.tmp 7)),
    .o 1 (.lt (some 9) (.ext (.tmp 8) 0)),
    .g (.keep [0, 7, 8, 9])]) (.seq (.cond (.tmp 9) (.skip) (.exit 0)) (.block 1 (.seq (.reg 0 [.o 0 (.lt (some 10) (.ext (.tmp 8) 1)),
    .o 1 (.lt (some 11) (.ext (.tmp 8) 2)),
    .o 2 (.lt (some 3) (.mov (.tmp 10))),
    .o 3 (.lt (some 4) (.mov (.tmp 11))),
    .g (.keep [0, 3, 4, 7])]) (.seq (.reg 0 [.o 0 (.lt (some 12) (.mov (.tmp 4))),
    .o 1 (.lt (some 13) (.bin .geq (.tmp 12) (.const (.int .i32 97)))),
    .o 2 (.lt (some 14) (.mov (.tmp 13))),
    .gd 3 14 true (some 15) (.lt (some 15) (.mov (.tmp 4))),
    .gd 4 14 true (some 16) (.lt (some 16) (.bin .leq (.tmp 15) (.const (.int .i32 122)))),
    .o 5 (.lt (some 17) (.pick (.tmp 14) (.tmp 16) (.const (.bool false)))),
    .o 6 (.lt (some 18) (.mov (.tmp 17))),
    .gd 7 18 false (some 19) (.lt (some 19) (.mov (.tmp 4))),
    .gd 8 18 false (some 20) (.lt (some 20) (.bin .geq (.tmp 19) (.const (.int .i32 65)))),
    .gd 9 18 false (some 21) (.lt (some 21) (.mov (.tmp 20))),
    .gd 10 21 true (some 22) (.lt (some 22) (.mov (.tmp 4))),
    .gd 11 21 true (some 23) (.lt (some 23) (.bin .leq (.tmp 22) (.const (.int .i32 90)))),
    .gd 12 18 false (some 24) (.lt (some 24) (.pick (.tmp 21) (.tmp 23) (.const (.bool false)))),
    .o 13 (.lt (some 25) (.pick (.tmp 18) (.const (.bool true)) (.tmp 24))),
    .o 14 (.lt (some 26) (.mov (.tmp 25))),
    .gd 15 26 false (some 27) (.lt (some 27) (.mov (.tmp 4))),
    .gd 16 26 false (some 28) (.lt (some 28) (.bin .eql (.tmp 27) (.const (.int .i32 95)))),
    .o 17 (.lt (some 29) (.pick (.tmp 26) (.const (.bool true)) (.tmp 28))),
    .o 18 (.lt (some 5) (.mov (.tmp 29))),
    .g (.keep [0, 3, 4, 5, 7])]) (.seq (.reg 0 [.o 0 (.lt (some 30) (.mov (.tmp 5))),
    .o 1 (.lt (some 31) (.un .not (.tmp 30))),
    .o 2 (.lt (some 32) (.mov (.tmp 31))),
    .gd 3 32 true (some 33) (.lt (some 33) (.mov (.tmp 3))),
    .gd 4 32 true (some 34) (.lt (some 34) (.bin .eql (.tmp 33) (.const (.int .i64 0)))),
    .gd 5 32 true (some 35) (.lt (some 35) (.mov (.tmp 34))),
    .gd 6 35 false (some 36) (.lt (some 36) (.mov (.tmp 4))),
    .gd 7 35 false (some 37) (.lt (some 37) (.bin .lss (.tmp 36) (.const (.int .i32 48)))),
    .gd 8 32 true (some 38) (.lt (some 38) (.pick (.tmp 35) (.const (.bool true)) (.tmp 37))),
    .gd 9 32 true (some 39) (.lt (some 39) (.mov (.tmp 38))),
    .gd 10 39 false (some 40) (.lt (some 40) (.mov (.tmp 4))),
    .gd 11 39 false (some 41) (.lt (some 41) (.bin .gtr (.tmp 40) (.const (.int .i32 57)))),
    .gd 12 32 true (some 42) (.lt (some 42) (.pick (.tmp 39) (.const (.bool true)) (.tmp 41))),
    .o 13 (.lt (some 43) (.pick (.tmp 32) (.tmp 42) (.const (.bool false)))),
    .g (.keep [0, 7, 43])]) (.cond (.tmp 43) (.seq (.reg 0 [.o 0 (.lt (some 2) (.mov (.const (.bool false)))),
    .g (.keep [2])]) (.ret)) (.skip)))))))
def model_isName.ir : C := .seq (.reg 0 [.o 0 (.lt (some 2) (.mov (.const (.bool false)))),
    .g (.keep [0])]) (.seq (.seq (.reg 1 [.o 0 (.lt (some 6) (.mov (.tmp 0))),
    .o 1 (.rng (some 7) 0 (.tmp 6)),
    .g (.keep [0, 7])]) (.block 0 (.loop model_isName.b0))) (.seq (.reg 0 [.o 0 (.lt (some 44) (.mov (.tmp 0))),
    .o 1 (.lt (some 45) (.lenStr (.tmp 44))),
    .o 2 (.lt (some 46) (.bin .geq (.tmp 45) (.const (.int .i64 1)))),
    .o 3 (.lt (some 47) (.mov (.tmp 46))),
    .gd 4 47 true (some 48) (.lt (some 48) (.mov (.tmp 0))),
    .gd 5 47 true (some 49) (.lt (some 49) (.lenStr (.tmp 48))),
    .gd 6 47 true (some 50) (.lt (some 50) (.bin .leq (.tmp 49) (.const (.int .i64 16)))),
    .o 7 (.lt (some 51) (.pick (.tmp 47) (.tmp 50) (.const (.bool false)))),
    .o 8 (.lt (some 2) (.mov (.tmp 51))),
    .g (.keep [2])]) (.ret)))
def model_isName.rs : List Rs := [.sl 2]
theorem model_isName.ok : isFn Try.prog model_isName.id 52 model_isName.ann model_isName.ir model_isName.rs := ⟨Try.f70, _, Try.func70, rfl, rfl, by kernel_rfl, by kernel_rfl⟩
-- slices.ContainsFunc[[]hallmark/api.Var,hallmark/api.Var]
def slices_ContainsFunc_Lapi_Var_api_Var.ann : List (Nat × RA) := [(0, { gs := [], keep := some [0, 1] }), (1, { gs := [], keep := some [4] })]
def slices_ContainsFunc_Lapi_Var_api_Var.ir : C := .seq (.reg 0 [.o 0 (.lt (some 4) (.mov (.const (.bool false)))),
    .g (.keep [0, 1])]) (.seq (.reg 0 [.o 0 (.lt (some 5) (.mov (.tmp 0))),
    .o 1 (.lt (some 6) (.mov (.tmp 1))),
    .o 2 (.call (some 7) slices_IndexFunc_Lapi_Var_api_Var.id [(.tmp 5), (.tmp 6)]),
    .o 3 (.lt (some 8) (.bin .geq (.tmp 7) (.const (.int .i64 0)))),
    .o 4 (.lt (some 4) (.mov (.tmp 8))),
    .g (.keep [4])]) (.ret))
def slices_ContainsFunc_Lapi_Var_api_Var.rs : List Rs := [.sl 4]
theorem slices_ContainsFunc_Lapi_Var_api_Var.ok : isFn Try.prog slices_ContainsFunc_Lapi_Var_api_Var.id 9 slices_ContainsFunc_Lapi_Var_api_Var.ann slices_ContainsFunc_Lapi_Var_api_Var.ir slices_ContainsFunc_Lapi_Var_api_Var.rs := ⟨Try.f71, _, Try.func71, rfl, rfl, by kernel_rfl, by kernel_rfl⟩
-- hallmark/model.variable$1
def model_variable_1.ann : List (Nat × RA) := [(0, { gs := [], keep := some [1, 2] }), (1, { gs := [], keep := some [3] })]
def model_variable_1.ir : C := .seq (.reg 1 [.o 0 (.box (some 2) 0 3 (.tmp 0)),
    .o 1 (.lt (some 3) (.mov (.const (.bool false)))),
    .g (.keep [1, 2])]) (.seq (.reg 0 [.o 0 (.lt (some 4) (.fad (.tmp 2) 0)),
    .o 1 (.lt (some 5) (.ld false 1 (.tmp 4))),
    .o 2 (.lt (some 6) (.fad (.tmp 1) 0)),
    .o 3 (.lt (some 7) (.ld false 1 (.tmp 6))),
    .o 4 (.lt (some 8) (.bin .eql (.tmp 5) (.tmp 7))),
    .o 5 (.lt (some 3) (.mov (.tmp 8))),
    .g (.keep [3])]) (.ret))
def model_variable_1.rs : List Rs := [.sl 3]
theorem model_variable_1.ok : isFn Try.prog model_variable_1.id 9 model_variable_1.ann model_variable_1.ir model_variable_1.rs := ⟨Try.f72, _, Try.func72, rfl, rfl, by kernel_rfl, by kernel_rfl⟩
-- hallmark/model.great$1
def model_great_1.ann : List (Nat × RA) := [(0, { gs := [], keep := some [0] }), (1, { gs := [], keep := some [2] })]
def model_great_1.ir : C := .seq (.reg 0 [.o 0 (.lt (some 2) (.mov (.const (.bool false)))),
    .g (.keep [0])]) (.seq (.reg 0 [.o 0 (.lt (some 3) (.mov (.tmp 0))),
    .o 1 (.call (some 4) model_within.id [(.tmp 3), (.const (.int .i64 1000000000))]),
    .o 2 (.lt (some 5) (.un .not (.tmp 4))),
    .o 3 (.lt (some 2) (.mov (.tmp 5))),
    .g (.keep [2])]) (.ret))
def model_great_1.rs : List Rs := [.sl 2]
theorem model_great_1.ok : isFn Try.prog model_great_1.id 6 model_great_1.ann model_great_1.ir model_great_1.rs := ⟨Try.f73, _, Try.func73, rfl, rfl, by kernel_rfl, by kernel_rfl⟩
-- hallmark/model.wide$1
def model_wide_1.ann : List (Nat × RA) := [(0, { gs := [], keep := some [0, 1] }), (1, { gs := [], keep := some [3] })]
def model_wide_1.ir : C := .seq (.reg 0 [.o 0 (.lt (some 3) (.mov (.const (.bool false)))),
    .g (.keep [0, 1])]) (.seq (.reg 0 [.o 0 (.lt (some 4) (.mov (.tmp 0))),
    .o 1 (.lt (some 5) (.lenSl (.tmp 4))),
    .o 2 (.lt (some 6) (.fad (.tmp 1) 7)),
    .o 3 (.lt (some 7) (.ld false 1 (.tmp 6))),
    .o 4 (.lt (some 8) (.lenSl (.tmp 7))),
    .o 5 (.lt (some 9) (.bin .neq (.tmp 5) (.tmp 8))),
    .o 6 (.lt (some 3) (.mov (.tmp 9))),
    .g (.keep [3])]) (.ret))
def model_wide_1.rs : List Rs := [.sl 3]
theorem model_wide_1.ok : isFn Try.prog model_wide_1.id 10 model_wide_1.ann model_wide_1.ir model_wide_1.rs := ⟨Try.f74, _, Try.func74, rfl, rfl, by kernel_rfl, by kernel_rfl⟩
-- slices.IndexFunc[[]int,int]
def slices_IndexFunc_Lint_int.ann : List (Nat × RA) := [(0, { gs := [], keep := some [0, 1] }), (1, { gs := [], keep := some [0, 1, 7, 8] }), (2, { gs := [], keep := some [0, 1, 7, 8, 9] }), (3, { gs := [], keep := some [0, 1, 5, 7, 8] }), (4, { gs := [], keep := some [0, 1, 5, 7, 8, 16] }), (5, { gs := [], keep := some [4] }), (6, { gs := [], keep := some [0, 1, 7, 8] }), (7, { gs := [], keep := some [4] })]
def slices_IndexFunc_Lint_int.b0 : C := .seq (.reg 0 [.o 0 (.lt (some 9) (.bin .lss (.tmp 8) (.tmp 7))),
    .g (.keep [0, 1, 7, 8, 9])]) (.seq (.cond (.tmp 9) (.skip) (.exit 0)) (.seq (.block 1 (.seq (.reg 0 [.o 0 (.lt (some 10) (.mov (.tmp 8))),
    .o 1 (.lt (some 5) (.mov (.tmp 10))),
    .g (.keep [0, 1, 5, 7, 8])]) (.seq (.reg 0 [.o 0 (.lt (some 11) (.mov (.tmp 1))),
    .o 1 (.lt (some 12) (.mov (.tmp 0))),
    .o 2 (.lt (some 13) (.mov (.tmp 5))),
    .o 3 (.lt (some 14) (.ixS 1 (.tmp 12) (.tmp 13))),
    .o 4 (.lt (some 15) (.ld false 1 (.tmp 14))),
    .o 5 (.callv (some 16) (.tmp 11) [(.tmp 15)]),
    .g (.keep [0, 1, 5, 7, 8, 16])]) (.cond (.tmp 16) (.seq (.reg 0 [.o 0 (.lt (some 17) (.mov (.tmp 5))),
    .o 1 (.lt (some 4) (.mov (.tmp 17))),
    .g (.keep [4])]) (.ret)) (.skip))))) (.reg 0 [.o 0 (.lt (some 18) (.bin .add (.tmp 8) (.const (.int .i64 1)))),
    .o 1 (.lt (some 8) (.mov (.tmp 18))),
    .g (.keep [0, 1, 7, 8])])))
def slices_IndexFunc_Lint_int.ir : C := .seq (.reg 0 [.o 0 (.lt (some 4) (.mov (.const (.int .i64 0)))),
    .g (.keep [0, 1])]) (.seq (.seq (.reg 0 [.o 0 (.lt (some 6) (.mov (.tmp 0))),
    .o 1 (.lt (some 7) (.lenSl (.tmp 6))),
    .o 2 (.lt (some 8) (.mov (.const (.int .i64 0)))),
    .g (.keep [0, 1, 7, 8])]) (.block 0 (.loop slices_IndexFunc_Lint_int.b0))) (.seq (.reg 0 [.o 0 (.lt (some 4) (.mov (.const (.int .i64 (-1))))),
    .g (.keep [4])]) (.ret)))
def slices_IndexFunc_Lint_int.rs : List Rs := [.sl 4]
theorem slices_IndexFunc_Lint_int.ok : isFn Try.prog slices_IndexFunc_Lint_int.id 19 slices_IndexFunc_Lint_int.ann slices_IndexFunc_Lint_int.ir slices_IndexFunc_Lint_int.rs := ⟨Try.f75, _, Try.func75, rfl, rfl, by kernel_rfl, by kernel_rfl⟩
-- slices.IndexFunc[[][]int,[]int]
def slices_IndexFunc_LLint_Lint.ann : List (Nat × RA) := [(0, { gs := [], keep := some [0, 1] }), (1, { gs := [], keep := some [0, 1, 7, 8] }), (2, { gs := [], keep := some [0, 1, 7, 8, 9] }), (3, { gs := [], keep := some [0, 1, 5, 7, 8] }), (4, { gs := [], keep := some [0, 1, 5, 7, 8, 16] }), (5, { gs := [], keep := some [4] }), (6, { gs := [], keep := some [0, 1, 7, 8] }), (7, { gs := [], keep := some [4] })]
def slices_IndexFunc_LLint_Lint.b0 : C := .seq (.reg 0 [.o 0 (.lt (some 9) (.bin .lss (.tmp 8) (.tmp 7))),
    .g (.keep [0, 1, 7, 8, 9])]) (.seq (.cond (.tmp 9) (.skip) (.exit 0)) (.seq (.block 1 (.seq (.reg 0 [.o 0 (.lt (some 10) (.mov (.tmp 8))),
    .o 1 (.lt (some 5) (.mov (.tmp 10))),
    .g (.keep [0, 1, 5, 7, 8])]) (.seq (.reg 0 [.o 0 (.lt (some 11) (.mov (.tmp 1))),
    .o 1 (.lt (some 12) (.mov (.tmp 0))),
    .o 2 (.lt (some 13) (.mov (.tmp 5))),
    .o 3 (.lt (some 14) (.ixS 1 (.tmp 12) (.tmp 13))),
    .o 4 (.lt (some 15) (.ld false 1 (.tmp 14))),
    .o 5 (.callv (some 16) (.tmp 11) [(.tmp 15)]),
    .g (.keep [0, 1, 5, 7, 8, 16])]) (.cond (.tmp 16) (.seq (.reg 0 [.o 0 (.lt (some 17) (.mov (.tmp 5))),
    .o 1 (.lt (some 4) (.mov (.tmp 17))),
    .g (.keep [4])]) (.ret)) (.skip))))) (.reg 0 [.o 0 (.lt (some 18) (.bin .add (.tmp 8) (.const (.int .i64 1)))),
    .o 1 (.lt (some 8) (.mov (.tmp 18))),
    .g (.keep [0, 1, 7, 8])])))
def slices_IndexFunc_LLint_Lint.ir : C := .seq (.reg 0 [.o 0 (.lt (some 4) (.mov (.const (.int .i64 0)))),
    .g (.keep [0, 1])]) (.seq (.seq (.reg 0 [.o 0 (.lt (some 6) (.mov (.tmp 0))),
    .o 1 (.lt (some 7) (.lenSl (.tmp 6))),
    .o 2 (.lt (some 8) (.mov (.const (.int .i64 0)))),
    .g (.keep [0, 1, 7, 8])]) (.block 0 (.loop slices_IndexFunc_LLint_Lint.b0))) (.seq (.reg 0 [.o 0 (.lt (some 4) (.mov (.const (.int .i64 (-1))))),
    .g (.keep [4])]) (.ret)))
def slices_IndexFunc_LLint_Lint.rs : List Rs := [.sl 4]
theorem slices_IndexFunc_LLint_Lint.ok : isFn Try.prog slices_IndexFunc_LLint_Lint.id 19 slices_IndexFunc_LLint_Lint.ann slices_IndexFunc_LLint_Lint.ir slices_IndexFunc_LLint_Lint.rs := ⟨Try.f76, _, Try.func76, rfl, rfl, by kernel_rfl, by kernel_rfl⟩
-- hallmark/model.is
def model_is.ann : List (Nat × RA) := [(0, { gs := [], keep := some [0, 1, 2] }), (1, { gs := [], keep := some [1, 2, 7] }), (2, { gs := [], keep := some [1, 2, 7, 8] }), (3, { gs := [], keep := some [6] }), (4, { gs := [], keep := some [1, 2, 13] }), (5, { gs := [], keep := some [6] }), (6, { gs := [], keep := some [6] })]
def model_is.ir : C := .seq (.reg 0 [.o 0 (.lt (some 6) (.mov (.const (.bool false)))),
    .g (.keep [0, 1, 2])]) (.seq (.seq (.reg 0 [.o 0 (.lt (some 7) (.mov (.tmp 0))),
    .g (.keep [1, 2, 7])]) (.block 0 (.seq (.reg 0 [.o 0 (.lt (some 9) (.bin .eql (.tmp 7) (.const (.int .i64 1)))),
    .o 1 (.lt (some 8) (.mov (.tmp 9))),
    .g (.keep [1, 2, 7, 8])]) (.cond (.tmp 8) (.seq (.reg 0 [.o 0 (.lt (some 10) (.mov (.tmp 1))),
    .o 1 (.lt (some 11) (.mov (.tmp 2))),
    .o 2 (.lt (some 12) (.bin .leq (.tmp 10) (.tmp 11))),
    .o 3 (.lt (some 6) (.mov (.tmp 12))),
    .g (.keep [6])]) (.ret)) (.seq (.reg 0 [.o 0 (.lt (some 14) (.bin .eql (.tmp 7) (.const (.int .i64 3)))),
    .o 1 (.lt (some 13) (.mov (.tmp 14))),
    .g (.keep [1, 2, 13])]) (.cond (.tmp 13) (.seq (.reg 0 [.o 0 (.lt (some 15) (.mov (.tmp 1))),
    .o 1 (.lt (some 16) (.mov (.tmp 2))),
    .o 2 (.lt (some 17) (.bin .geq (.tmp 15) (.tmp 16))),
    .o 3 (.lt (some 6) (.mov (.tmp 17))),
    .g (.keep [6])]) (.ret)) (.skip))))))) (.seq (.reg 0 [.o 0 (.lt (some 18) (.mov (.tmp 1))),
    .o 1 (.lt (some 19) (.mov (.tmp 2))),
    .o 2 (.lt (some 20) (.bin .eql (.tmp 18) (.tmp 19))),
    .o 3 (.lt (some 6) (.mov (.tmp 20))),
    .g (.keep [6])]) (.ret)))
def model_is.rs : List Rs := [.sl 6]
theorem model_is.ok : isFn Try.prog model_is.id 21 model_is.ann model_is.ir model_is.rs := ⟨Try.f77, _, Try.func77, rfl, rfl, by kernel_rfl, by kernel_rfl⟩
-- slices.Compact[[]int,int]
def slices_Compact_Lint_int.ann : List (Nat × RA) := [(0, { gs := [], keep := some [0] }), (1, { gs := [], keep := some [0, 8] }), (2, { gs := [], keep := some [2] }), (3, { gs := [], keep := some [0, 3] }), (4, { gs := [], keep := some [0, 3, 13] }), (5, { gs := [], keep := some [0, 3] }), (6, { gs := [], keep := some [0, 3, 25], ord := [0, 1, 2, 3, 4, 5, 6, 7, 8, 9] }), (7, { gs := [], keep := some [0, 3, 4] }), (8, { gs := [], keep := some [0, 3, 4, 5] }), (9, { gs := [], keep := some [0, 3, 4, 5, 32] }), (10, { gs := [], keep := some [0, 3, 4, 5] }), (11, { gs := [], keep := some [0, 3, 4, 5, 44], ord := [0, 1, 2, 3, 4, 5, 6, 7, 8, 9] }), (12, { gs := [], keep := some [0, 3, 4, 5] }), (13, { gs := [], keep := some [0, 3, 4, 5] }), (14, { gs := [], keep := some [0, 3] }), (15, { gs := [], keep := some [2] }), (16, { gs := [], keep := some [2] })]
def slices_Compact_Lint_int.b1 : C := .seq (.seq (.reg 0 [.o 0 (.lt (some 29) (.mov (.tmp 5))),
    .o 1 (.lt (some 30) (.mov (.tmp 4))),
    .o 2 (.lt (some 31) (.lenSl (.tmp 30))),
    .o 3 (.lt (some 32) (.bin .lss (.tmp 29) (.tmp 31))),
    .g (.keep [0, 3, 4, 5, 32])]) (.cond (.tmp 32) (.skip) (.exit 2))) (.seq (.block 3 (.seq (.reg 0 [.o 0 (.lt (some 35) (.mov (.tmp 4))),
    .o 1 (.lt (some 36) (.mov (.tmp 5))),
    .o 2 (.lt (some 37) (.ixS 1 (.tmp 35) (.tmp 36))),
    .o 3 (.lt (some 38) (.ld false 1 (.tmp 37))),
    .o 4 (.lt (some 39) (.mov (.tmp 4))),
    .o 5 (.lt (some 40) (.mov (.tmp 5))),
    .o 6 (.lt (some 41) (.bin .sub (.tmp 40) (.const (.int .i64 1)))),
    .o 7 (.lt (some 42) (.ixS 1 (.tmp 39) (.tmp 41))),
    .o 8 (.lt (some 43) (.ld false 1 (.tmp 42))),
    .o 9 (.lt (some 44) (.bin .neq (.tmp 38) (.tmp 43))),
    .g (.keep [0, 3, 4, 5, 44])]) (.cond (.tmp 44) (.seq (.reg 0 [.o 0 (.lt (some 45) (.mov (.tmp 0))),
    .o 1 (.lt (some 46) (.mov (.tmp 3))),
    .o 2 (.lt (some 47) (.mov (.tmp 4))),
    .o 3 (.lt (some 48) (.mov (.tmp 5))),
    .o 4 (.lt (some 49) (.ixS 1 (.tmp 47) (.tmp 48))),
    .o 5 (.lt (some 50) (.ld false 1 (.tmp 49))),
    .o 6 (.lt (some 51) (.ixS 1 (.tmp 45) (.tmp 46))),
    .o 7 (.store [] 1 (.tmp 51) (.tmp 50)),
    .g (.keep [0, 3, 4, 5])]) (.reg 0 [.o 0 (.lt (some 52) (.mov (.tmp 3))),
    .o 1 (.lt (some 53) (.bin .add (.tmp 52) (.const (.int .i64 1)))),
    .o 2 (.lt (some 3) (.mov (.tmp 53))),
    .g (.keep [0, 3, 4, 5])])) (.skip)))) (.reg 0 [.o 0 (.lt (some 33) (.mov (.tmp 5))),
    .o 1 (.lt (some 34) (.bin .add (.tmp 33) (.const (.int .i64 1)))),
    .o 2 (.lt (some 5) (.mov (.tmp 34))),
    .g (.keep [0, 3, 4, 5])]))
def slices_Compact_Lint_int.b0 : C := .seq (.seq (.reg 0 [.o 0 (.lt (some 10) (.mov (.tmp 3))),
    .o 1 (.lt (some 11) (.mov (.tmp 0))),
    .o 2 (.lt (some 12) (.lenSl (.tmp 11))),
    .o 3 (.lt (some 13) (.bin .lss (.tmp 10) (.tmp 12))),
    .g (.keep [0, 3, 13])]) (.cond (.tmp 13) (.skip) (.exit 0))) (.seq (.block 1 (.seq (.reg 0 [.o 0 (.lt (some 16) (.mov (.tmp 0))),
    .o 1 (.lt (some 17) (.mov (.tmp 3))),
    .o 2 (.lt (some 18) (.ixS 1 (.tmp 16) (.tmp 17))),
    .o 3 (.lt (some 19) (.ld false 1 (.tmp 18))),
    .o 4 (.lt (some 20) (.mov (.tmp 0))),
    .o 5 (.lt (some 21) (.mov (.tmp 3))),
    .o 6 (.lt (some 22) (.bin .sub (.tmp 21) (.const (.int .i64 1)))),
    .o 7 (.lt (some 23) (.ixS 1 (.tmp 20) (.tmp 22))),
    .o 8 (.lt (some 24) (.ld false 1 (.tmp 23))),
    .o 9 (.lt (some 25) (.bin .eql (.tmp 19) (.tmp 24))),
    .g (.keep [0, 3, 25])]) (.cond (.tmp 25) (.seq (.reg 0 [.o 0 (.lt (some 26) (.mov (.tmp 0))),
    .o 1 (.lt (some 27) (.mov (.tmp 3))),
    .o 2 (.lt (some 28) (.slSl 1 (.tmp 26) (some (.tmp 27)) none)),
    .o 3 (.lt (some 4) (.mov (.tmp 28))),
    .g (.keep [0, 3, 4])]) (.seq (.seq (.reg 0 [.o 0 (.lt (some 5) (.mov (.const (.int .i64 1)))),
    .g (.keep [0, 3, 4, 5])]) (.block 2 (.loop slices_Compact_Lint_int.b1))) (.seq (.reg 0 [.o 0 (.lt (some 54) (.mov (.tmp 0))),
    .o 1 (.lt (some 55) (.mov (.tmp 3))),
    .o 2 (.lt (some 56) (.slSl 1 (.tmp 54) (some (.tmp 55)) none)),
    .o 3 (.clr none 1 [.a (.int .i64 0)] (.tmp 56)),
    .g (.keep [0, 3])]) (.seq (.reg 0 [.o 0 (.lt (some 57) (.mov (.tmp 0))),
    .o 1 (.lt (some 58) (.mov (.tmp 3))),
    .o 2 (.lt (some 59) (.slSl 1 (.tmp 57) none (some (.tmp 58)))),
    .o 3 (.lt (some 2) (.mov (.tmp 59))),
    .g (.keep [2])]) (.ret))))) (.skip)))) (.reg 0 [.o 0 (.lt (some 14) (.mov (.tmp 3))),
    .o 1 (.lt (some 15) (.bin .add (.tmp 14) (.const (.int .i64 1)))),
    .o 2 (.lt (some 3) (.mov (.tmp 15))),
    .g (.keep [0, 3])]))
def slices_Compact_Lint_int.ir : C := .seq (.reg 0 [.o 0 (.lt (some 2) (.mov (.const (.slice none 0 0)))),
    .g (.keep [0])]) (.seq (.seq (.reg 0 [.o 0 (.lt (some 6) (.mov (.tmp 0))),
    .o 1 (.lt (some 7) (.lenSl (.tmp 6))),
    .o 2 (.lt (some 8) (.bin .lss (.tmp 7) (.const (.int .i64 2)))),
    .g (.keep [0, 8])]) (.cond (.tmp 8) (.seq (.reg 0 [.o 0 (.lt (some 9) (.mov (.tmp 0))),
    .o 1 (.lt (some 2) (.mov (.tmp 9))),
    .g (.keep [2])]) (.ret)) (.skip))) (.seq (.seq (.reg 0 [.o 0 (.lt (some 3) (.mov (.const (.int .i64 1)))),
    .g (.keep [0, 3])]) (.block 0 (.loop slices_Compact_Lint_int.b0))) (.seq (.reg 0 [.o 0 (.lt (some 60) (.mov (.tmp 0))),
    .o 1 (.lt (some 2) (.mov (.tmp 60))),
    .g (.keep [2])]) (.ret))))
def slices_Compact_Lint_int.rs : List Rs := [.sl 2]
theorem slices_Compact_Lint_int.ok : isFn Try.prog slices_Compact_Lint_int.id 61 slices_Compact_Lint_int.ann slices_Compact_Lint_int.ir slices_Compact_Lint_int.rs := ⟨Try.f79, _, Try.func79, rfl, rfl, by kernel_rfl, by kernel_rfl⟩
-- hallmark/model.table$1
def model_table_1.ann : List (Nat × RA) := [(0, { gs := [], keep := some [0, 1] }), (1, { gs := [], keep := some [3] })]
def model_table_1.ir : C := .seq (.reg 0 [.o 0 (.lt (some 3) (.mov (.const (.bool false)))),
    .g (.keep [0, 1])]) (.seq (.reg 0 [.o 0 (.lt (some 4) (.mov (.tmp 0))),
    .o 1 (.lt (some 5) (.ld false 1 (.tmp 1))),
    .o 2 (.call (some 6) slices_Equal_Lint_int.id [(.tmp 4), (.tmp 5)]),
    .o 3 (.lt (some 3) (.mov (.tmp 6))),
    .g (.keep [3])]) (.ret))
def model_table_1.rs : List Rs := [.sl 3]
theorem model_table_1.ok : isFn Try.prog model_table_1.id 7 model_table_1.ann model_table_1.ir model_table_1.rs := ⟨Try.f80, _, Try.func80, rfl, rfl, by kernel_rfl, by kernel_rfl⟩
-- slices.Equal[[]int,int]
def slices_Equal_Lint_int.ann : List (Nat × RA) := [(0, { gs := [], keep := some [0, 1] }), (1, { gs := [], keep := some [0, 1, 10] }), (2, { gs := [], keep := some [4] }), (3, { gs := [], keep := some [0, 1, 12, 13] }), (4, { gs := [], keep := some [0, 1, 12, 13, 14] }), (5, { gs := [], keep := some [0, 1, 5, 12, 13] }), (6, { gs := [], keep := some [0, 1, 12, 13, 24], ord := [0, 1, 2, 3, 4, 5, 6, 7, 8] }), (7, { gs := [], keep := some [4] }), (8, { gs := [], keep := some [0, 1, 12, 13] }), (9, { gs := [], keep := some [4] })]
def slices_Equal_Lint_int.b0 : C := .seq (.reg 0 [.o 0 (.lt (some 14) (.bin .lss (.tmp 13) (.tmp 12))),
    .g (.keep [0, 1, 12, 13, 14])]) (.seq (.cond (.tmp 14) (.skip) (.exit 0)) (.seq (.block 1 (.seq (.reg 0 [.o 0 (.lt (some 15) (.mov (.tmp 13))),
    .o 1 (.lt (some 5) (.mov (.tmp 15))),
    .g (.keep [0, 1, 5, 12, 13])]) (.seq (.reg 0 [.o 0 (.lt (some 16) (.mov (.tmp 0))),
    .o 1 (.lt (some 17) (.mov (.tmp 5))),
    .o 2 (.lt (some 18) (.ixS 1 (.tmp 16) (.tmp 17))),
    .o 3 (.lt (some 19) (.ld false 1 (.tmp 18))),
    .o 4 (.lt (some 20) (.mov (.tmp 1))),
    .o 5 (.lt (some 21) (.mov (.tmp 5))),
    .o 6 (.lt (some 22) (.ixS 1 (.tmp 20) (.tmp 21))),
    .o 7 (.lt (some 23) (.ld false 1 (.tmp 22))),
    .o 8 (.lt (some 24) (.bin .neq (.tmp 19) (.tmp 23))),
    .g (.keep [0, 1, 12, 13, 24])]) (.cond (.tmp 24) (.seq (.reg 0 [.o 0 (.lt (some 4) (.mov (.const (.bool false)))),
    .g (.keep [4])]) (.ret)) (.skip))))) (.reg 0 [.o 0 (.lt (some 25) (.bin .add (.tmp 13) (.const (.int .i64 1)))),
    .o 1 (.lt (some 13) (.mov (.tmp 25))),
    .g (.keep [0, 1, 12, 13])])))
def slices_Equal_Lint_int.ir : C := .seq (.reg 0 [.o 0 (.lt (some 4) (.mov (.const (.bool false)))),
    .g (.keep [0, 1])]) (.seq (.seq (.reg 0 [.o 0 (.lt (some 6) (.mov (.tmp 0))),
    .o 1 (.lt (some 7) (.lenSl (.tmp 6))),
    .o 2 (.lt (some 8) (.mov (.tmp 1))),
    .o 3 (.lt (some 9) (.lenSl (.tmp 8))),
    .o 4 (.lt (some 10) (.bin .neq (.tmp 7) (.tmp 9))),
    .g (.keep [0, 1, 10])]) (.cond (.tmp 10) (.seq (.reg 0 [.o 0 (.lt (some 4) (.mov (.const (.bool false)))),
    .g (.keep [4])]) (.ret)) (.skip))) (.seq (.seq (.reg 0 [.o 0 (.lt (some 11) (.mov (.tmp 0))),
    .o 1 (.lt (some 12) (.lenSl (.tmp 11))),
    .o 2 (.lt (some 13) (.mov (.const (.int .i64 0)))),
    .g (.keep [0, 1, 12, 13])]) (.block 0 (.loop slices_Equal_Lint_int.b0))) (.seq (.reg 0 [.o 0 (.lt (some 4) (.mov (.const (.bool true)))),
    .g (.keep [4])]) (.ret))))
def slices_Equal_Lint_int.rs : List Rs := [.sl 4]
theorem slices_Equal_Lint_int.ok : isFn Try.prog slices_Equal_Lint_int.id 26 slices_Equal_Lint_int.ann slices_Equal_Lint_int.ir slices_Equal_Lint_int.rs := ⟨Try.f81, _, Try.func81, rfl, rfl, by kernel_rfl, by kernel_rfl⟩
-- slices.IndexFunc[[]hallmark/api.Var,hallmark/api.Var]
def slices_IndexFunc_Lapi_Var_api_Var.ann : List (Nat × RA) := [(0, { gs := [], keep := some [0, 1] }), (1, { gs := [], keep := some [0, 1, 7, 8] }), (2, { gs := [], keep := some [0, 1, 7, 8, 9] }), (3, { gs := [], keep := some [0, 1, 5, 7, 8] }), (4, { gs := [], keep := some [0, 1, 5, 7, 8, 16] }), (5, { gs := [], keep := some [4] }), (6, { gs := [], keep := some [0, 1, 7, 8] }), (7, { gs := [], keep := some [4] })]
def slices_IndexFunc_Lapi_Var_api_Var.b0 : C := .seq (.reg 0 [.o 0 (.lt (some 9) (.bin .lss (.tmp 8) (.tmp 7))),
    .g (.keep [0, 1, 7, 8, 9])]) (.seq (.cond (.tmp 9) (.skip) (.exit 0)) (.seq (.block 1 (.seq (.reg 0 [.o 0 (.lt (some 10) (.mov (.tmp 8))),
    .o 1 (.lt (some 5) (.mov (.tmp 10))),
    .g (.keep [0, 1, 5, 7, 8])]) (.seq (.reg 0 [.o 0 (.lt (some 11) (.mov (.tmp 1))),
    .o 1 (.lt (some 12) (.mov (.tmp 0))),
    .o 2 (.lt (some 13) (.mov (.tmp 5))),
    .o 3 (.lt (some 14) (.ixS 3 (.tmp 12) (.tmp 13))),
    .o 4 (.lt (some 15) (.ld true 3 (.tmp 14))),
    .o 5 (.callv (some 16) (.tmp 11) [(.tmp 15)]),
    .g (.keep [0, 1, 5, 7, 8, 16])]) (.cond (.tmp 16) (.seq (.reg 0 [.o 0 (.lt (some 17) (.mov (.tmp 5))),
    .o 1 (.lt (some 4) (.mov (.tmp 17))),
    .g (.keep [4])]) (.ret)) (.skip))))) (.reg 0 [.o 0 (.lt (some 18) (.bin .add (.tmp 8) (.const (.int .i64 1)))),
    .o 1 (.lt (some 8) (.mov (.tmp 18))),
    .g (.keep [0, 1, 7, 8])])))
def slices_IndexFunc_Lapi_Var_api_Var.ir : C := .seq (.reg 0 [.o 0 (.lt (some 4) (.mov (.const (.int .i64 0)))),
    .g (.keep [0, 1])]) (.seq (.seq (.reg 0 [.o 0 (.lt (some 6) (.mov (.tmp 0))),
    .o 1 (.lt (some 7) (.lenSl (.tmp 6))),
    .o 2 (.lt (some 8) (.mov (.const (.int .i64 0)))),
    .g (.keep [0, 1, 7, 8])]) (.block 0 (.loop slices_IndexFunc_Lapi_Var_api_Var.b0))) (.seq (.reg 0 [.o 0 (.lt (some 4) (.mov (.const (.int .i64 (-1))))),
    .g (.keep [4])]) (.ret)))
def slices_IndexFunc_Lapi_Var_api_Var.rs : List Rs := [.sl 4]
theorem slices_IndexFunc_Lapi_Var_api_Var.ok : isFn Try.prog slices_IndexFunc_Lapi_Var_api_Var.id 19 slices_IndexFunc_Lapi_Var_api_Var.ann slices_IndexFunc_Lapi_Var_api_Var.ir slices_IndexFunc_Lapi_Var_api_Var.rs := ⟨Try.f82, _, Try.func82, rfl, rfl, by kernel_rfl, by kernel_rfl⟩
end Go.Abs.G

/- Words for the evaluation of functions. -/
namespace Go.Abs
set_option linter.unusedVariables false

section
variable {P : Program} {Q : Ex → St → Prop} {st : St} {x : Operand} {a b : C} {k : St → Prop} {l : List It} {j t : Nat} {want : Bool} {d : Option Nat} {i : I}
@[simp ↓ high] theorem vc_cond_true (h : st.ev x = .a (.bool true)) : vc P (.cond x a b) Q st = vc P a Q st := by simp only [vc, h]; simp
@[simp ↓ high] theorem vc_cond_false (h : st.ev x = .a (.bool false)) : vc P (.cond x a b) Q st = vc P b Q st := by simp only [vc, h]; simp
@[simp ↓ high] theorem vcIts_gd_pos (h : gt st.sl t = .a (.bool want)) : vcIts P (.gd j t want d i :: l) k st = i.vc P (vcIts P l k) (st.put (some t) (.bool want)) := by
  simp only [vcIts, h]; cases want <;> simp [St.put]
@[simp ↓ high] theorem vcIts_gd_neg (h : gt st.sl t = .a (.bool (!want))) : vcIts P (.gd j t want d i :: l) k st = vcIts P l k ((st.put (some t) (.bool !want)).put d (.a undef)) := by
  simp only [vcIts, h]; cases want <;> simp [St.put]
@[simp ↓ high] theorem vcIts_gd_un (h : gt st.sl t = .a (.tuple #[])) : vcIts P (.gd j t want d i :: l) k st = vcIts P l k (st.put d (.a undef)) := by simp only [vcIts, h]
end

attribute [simp] vc vcIts I.vc L.pre L.val St.ev cv gt_up gt_e0 keepS St.put St.res binV binP binI binIP V.isBool V.isInt V.num V.tru V.fzP V.fz V.kindOf okNil okAt O.isMem O.isMap O.rows O.refs O.ents V.plus ldP ldV cellsAt
  V.sized V.one Value.oneCell' rowSet addRefs V.idsL V.ids V.cells okSl V.slEs V.slLen V.elemAt V.isStr V.txt V.entsOf okMp isK eqK V.nilK okZ V.rowsOf V.rowIds chunk fillV V.oid V.nilSl V.isA V.cut optN optP initS
  resP resV Rs.ok Rs.val V.fzPL V.fzL trimS_up trimS_e0 lim binS binSP St.trim limO O.fz Heap.fz mxI putE V.isByte

attribute [simp] undef I.bsvV addAll idx back sub merge place V.renL V.ren O.ren V.flat V.flatL

@[congr] theorem vc_congr {P : Program} {c : C} {Q : Ex → St → Prop} {st st' : St} (h : st = st') : vc P c Q st = vc P c Q st' := by rw [h]
@[congr] theorem vcIts_congr {P : Program} {l : List It} {k : St → Prop} {st st' : St} (h : st = st') : vcIts P l k st = vcIts P l k st' := by rw [h]
@[congr] theorem Ivc_congr {P : Program} {i : I} {k : St → Prop} {st st' : St} (h : st = st') : i.vc P k st = i.vc P k st' := by rw [h]
@[congr] theorem WI_congr {P : Program} {c : C} {Q : Ex → St → Prop} {st st' : St} (h : st = st') : WI P c Q st = WI P c Q st' := by rw [h]
@[congr] theorem DP_congr {P : Program} {f : FuncId} {Q : V → Prop} {xs xs' : List V} (h : xs = xs') : DP P f xs Q = DP P f xs' Q := by rw [h]
@[congr] theorem DC_congr {P : Program} {f : FuncId} {Q : V → Heap → Prop} {xs xs' : List V} {H H' : Heap} (h : xs = xs') (hh : H = H') : DC P f xs H Q = DC P f xs' H' Q := by rw [h, hh]

theorem addAll_sub : ∀ (is l : List Nat), (∀ i ∈ is, i ∈ l) → addAll l is = l := by
  intro is
  induction is with
  | nil => intro l _; rfl
  | cons i is ih =>
    intro l h
    simp only [addAll]
    rw [if_pos (h i (by simp))]
    exact ih l fun k hk => h k (by simp [hk])

@[simp] theorem clos_stop (H : Heap) (n : Nat) (l : List Nat) (h : ∀ i ∈ l, ∀ k ∈ (H.getD i .dead).refs, k ∈ l) : clos H n l = l := by
  induction n with
  | zero => rfl
  | succ n ih =>
    simp only [clos]
    rw [addAll_sub _ _ fun i hi => ?_]
    · exact ih
    · obtain ⟨j, hj, hi⟩ := List.mem_flatMap.1 hi
      exact h j hj i hi

@[simp] theorem okSel_iff (H : Heap) (sel : List Nat) : OkSel H sel ↔ sel.Nodup ∧ (∀ i ∈ sel, i < H.length) ∧ (∀ i ∈ sel, H.getD i .dead ≠ .res) ∧ ∀ i ∈ sel, ∀ k ∈ (H.getD i .dead).refs, k ∈ sel :=
  ⟨fun h => ⟨h.nd, h.lt, h.nres, h.cl⟩, fun h => ⟨h.1, h.2.1, h.2.2.1, h.2.2.2⟩⟩

theorem wrap64 {n : Int} (h1 : -9223372036854775808 ≤ n) (h2 : n ≤ 9223372036854775807) : IntKind.i64.wrap n = n := by
  show (if (true && decide (n % 18446744073709551616 ≥ 9223372036854775808)) = true then n % 18446744073709551616 - 18446744073709551616 else n % 18446744073709551616) = n
  simp only [Bool.true_and, decide_eq_true_eq]
  split <;> omega

end Go.Abs

/- What the row's reading tells, as abstract values. -/
namespace Go.Abs
set_option linter.unusedVariables false

def βz : Nat → Hd := fun _ => ⟨0, 0, 0, 0, 0, false, 0⟩
def cz (w : World) : Cx := cx w.heap [] βz (fun _ => False)

theorem cz_own (w : World) (b : Nat) : ¬ (cz w).own b := by
  rintro (⟨i, e⟩ | e)
  · simp [ownsB] at e
  · exact e

theorem cz_only {w : World} {v : Value} {x : V} (h : RV (cz w) v x) : RV ((cz w).only []) v x :=
  h.mono ⟨Nat.le_refl _, fun _ _ hn => ⟨rfl, hn⟩, fun i hl => by obtain ⟨o, ho, _⟩ := hl; simp at ho, fun _ _ _ e => .inl e⟩

theorem cz_hok (w : World) : HOK w.heap [] βz (fun _ => False) :=
  ⟨fun id o h => by simp at h, fun id id' b h => by simp [ownsB] at h, fun b h => h.elim⟩

/-- What reads as a value of type t is some x's. -/
def Rd (P : Program) (t : TypeId) (n : Nat) {α : Type} (f : α → List V) (ok : α → Prop) : Prop :=
  P.cellsOf t = n ∧ ∀ (H : Type) (enc : TypeId × Value → H) (w : World) (fuel : Nat) (cs : List Value) (d : DataW H) (ps : List MemPlace), DataW.trod enc P w 0 (fun _ => true) true fuel t cs = some (d, ps) →
    ∃ x, ok x ∧ (f x).length = n ∧ cs.length = n ∧ ∀ (i : Nat) (v : Value) (y : V), cs[i]? = some v → (f x)[i]? = some y → v.oneCell' = true ∧ RV (cz w) v y

section
variable {P : Program} {t : TypeId}

theorem one_get {v0 : Value} {y0 : V} {w : World} (h1 : v0.oneCell' = true) (h2 : RV (cz w) v0 y0) : ∀ (i : Nat) (v : Value) (y : V), [v0][i]? = some v → [y0][i]? = some y → v.oneCell' = true ∧ RV (cz w) v y := by
  intro i v y a b
  cases i with
  | zero => simp at a b; subst a; subst b; exact ⟨h1, h2⟩
  | succ i => simp at a

theorem Rd.int {k : IntKind} (hu : P.underlying t = some (.int k)) (hc : P.cellsOf t = 1) : Rd P t 1 (fun n : Int => [.a (.int k n)]) (fun n => (Lit.int k n).wf = true) := by
  refine ⟨hc, fun H enc w fuel cs d ps h => ?_⟩
  cases fuel with
  | zero => simp [DataW.trod] at h
  | succ fuel =>
    unfold DataW.trod at h
    rw [hu] at h
    rcases cs with _ | ⟨v, _ | ⟨v2, cs⟩⟩
    · cases h
    · cases v <;> first | cases h | skip
      next k' n =>
      simp only at h
      split at h
      · next hk =>
        obtain ⟨rfl, hk⟩ := hk
        exact ⟨n, hk, rfl, rfl, one_get rfl .a⟩
      · cases h
    · simp at h

theorem Rd.bool (hu : P.underlying t = some .bool) (hc : P.cellsOf t = 1) : Rd P t 1 (fun b : Bool => [.a (.bool b)]) (fun _ => True) := by
  refine ⟨hc, fun H enc w fuel cs d ps h => ?_⟩
  cases fuel with
  | zero => simp [DataW.trod] at h
  | succ fuel =>
    unfold DataW.trod at h
    rw [hu] at h
    rcases cs with _ | ⟨v, _ | ⟨v2, cs⟩⟩
    · cases h
    · cases v <;> first | cases h | skip
      next b => exact ⟨b, trivial, rfl, rfl, one_get rfl .a⟩
    · simp at h

theorem Rd.str (hu : P.underlying t = some .string) (hc : P.cellsOf t = 1) : Rd P t 1 (fun s : ByteArray => [.a (.string s)]) (fun s => s.size ≤ maxLen) := by
  refine ⟨hc, fun H enc w fuel cs d ps h => ?_⟩
  cases fuel with
  | zero => simp [DataW.trod] at h
  | succ fuel =>
    unfold DataW.trod at h
    rw [hu] at h
    rcases cs with _ | ⟨v, _ | ⟨v2, cs⟩⟩
    · cases h
    · cases v <;> first | cases h | skip
      next s =>
      simp only at h
      split at h
      · next hs => exact ⟨s, hs, rfl, rfl, one_get rfl .a⟩
      · cases h
    · simp at h

theorem cells?_get {w : World} {a : Addr} {n : Nat} {cs : List Value} (h : w.cells? 0 a n = some cs) : cs.length = n ∧ ∀ (i : Nat) (v : Value), cs[i]? = some v → look w.heap a.block (a.off + i) = some v ∧ (i = 0 → a.spot = none) := by
  unfold World.cells? at h
  rw [if_pos (Nat.zero_le _)] at h
  obtain ⟨h1, h2⟩ := mapM_some h
  have hl : cs.length = n := by rw [h1]; simp
  refine ⟨hl, fun i v hv => ?_⟩
  have hi : i < n := by rw [← hl]; exact lt_of_get hv
  obtain ⟨y, hy, hc⟩ := h2 i i (List.getElem?_range hi)
  rw [hv] at hy; injection hy with hy; subst hy
  have hadd : (a.add i).block = a.block ∧ ((a.add i).spot = none → (i = 0 → a.spot = none) ∧ (a.add i).off = a.off + i) := by
    unfold Addr.add
    split
    · next e => subst e; exact ⟨rfl, fun h => ⟨fun _ => h, by simp⟩⟩
    · next e => exact ⟨rfl, fun h => ⟨fun e' => (e e').elim, rfl⟩⟩
  unfold World.cell? at hc
  rw [hadd.1] at hc
  split at hc
  · next c _ _ hb =>
    split at hc
    · cases hc
    · next hs =>
      have hs : (a.add i).spot = none := by simpa using hs
      obtain ⟨g1, g2⟩ := hadd.2 hs
      rw [g2] at hc
      exact ⟨by unfold look; rw [hb]; exact hc, g1⟩
  · cases hc

theorem all_choice {α β : Type} {R : Nat → α → β → Prop} : ∀ (l : List α) (k : Nat), (∀ (i : Nat) (x : α), l[i]? = some x → ∃ y, R (k + i) x y) → ∃ r : List β, r.length = l.length ∧ ∀ (i : Nat) (x : α) (y : β), l[i]? = some x → r[i]? = some y → R (k + i) x y := by
  intro l
  induction l with
  | nil => intro k _; exact ⟨[], rfl, fun i x y h => by simp at h⟩
  | cons a l ih =>
    intro k h
    obtain ⟨y, hy⟩ := h 0 a rfl
    obtain ⟨r, h1, h2⟩ := ih (k + 1) fun i x hx => by
      obtain ⟨y, hy⟩ := h (i + 1) x hx
      exact ⟨y, by rw [show k + 1 + i = k + (i + 1) from by omega]; exact hy⟩
    refine ⟨y :: r, by simp [h1], fun i x z hx hz => ?_⟩
    cases i with
    | zero => simp at hx hz; subst hx; subst hz; exact hy
    | succ i =>
      have := h2 i x z (by simpa using hx) (by simpa using hz)
      rw [show k + (i + 1) = k + 1 + i from by omega]; exact this

theorem Rd.slice {e : TypeId} {n : Nat} {α : Type} {f : α → List V} {ok : α → Prop} (hu : P.underlying t = some (.slice e)) (hc : P.cellsOf t = 1) (hn : 0 < n) (he : Rd P e n f ok) :
    Rd P t 1 (fun l : List α => [.view n (l.map f)]) (fun l => l.length ≤ maxLen ∧ ∀ x ∈ l, ok x) := by
  refine ⟨hc, fun H enc w fuel cs d ps h => ?_⟩
  obtain ⟨hen, hel⟩ := he
  cases fuel with
  | zero => simp [DataW.trod] at h
  | succ fuel =>
    unfold DataW.trod at h
    rw [hu] at h
    rcases cs with _ | ⟨v, _ | ⟨v2, cs⟩⟩
    · cases h
    · cases v <;> first | cases h | skip
      next base len cap =>
      cases base with
      | none =>
        cases len <;> cases cap <;> first | cases h | skip
        exact ⟨[], ⟨Nat.zero_le _, by simp⟩, rfl, rfl, one_get rfl .nilv⟩
      | some a =>
        simp only at h
        split at h
        · next hg =>
          obtain ⟨_, hlc, hcm⟩ := hg
          simp only [Option.bind_eq_some_iff, Option.map_eq_some_iff] at h
          obtain ⟨elems, h1, _⟩ := h
          obtain ⟨g1, g2⟩ := mapM_some h1
          have hlen : elems.length = len := by rw [g1]; simp
          have hall : ∀ (i : Nat) (x : DataW H × List MemPlace), elems[i]? = some x → ∃ y : α, ok y ∧ (f y).length = n ∧ ∀ (j : Nat) (z : V), (f y)[j]? = some z → ∃ v, look w.heap a.block (a.off + (0 + i) * n + j) = some v ∧ (0 + i = 0 → j = 0 → a.spot = none) ∧ v.oneCell' = true ∧ RV (cz w) v z := by
            intro i x hx
            have hi : i < len := by rw [← hlen]; exact lt_of_get hx
            obtain ⟨y, hy, hc⟩ := g2 i i (List.getElem?_range hi)
            rw [hx] at hy; injection hy with hy; subst hy
            rw [Option.bind_eq_some_iff] at hc
            obtain ⟨ci, hci, htr⟩ := hc
            rw [hen] at hci
            obtain ⟨c1, c2⟩ := cells?_get hci
            obtain ⟨y, k1, k2, k3, k4⟩ := hel H enc w fuel ci _ _ htr
            refine ⟨y, k1, k2, fun j z hz => ?_⟩
            have hj : j < ci.length := by rw [k3, ← k2]; exact lt_of_get hz
            have hv := List.getElem?_eq_getElem hj
            obtain ⟨m1, m2⟩ := k4 j _ z hv hz
            obtain ⟨q1, q2⟩ := c2 j _ hv
            have hadd : (a.add (i * n)).block = a.block ∧ (a.add (i * n)).off = a.off + i * n := by
              unfold Addr.add
              split
              · next e => rw [e]; exact ⟨rfl, by simp⟩
              · exact ⟨rfl, rfl⟩
            rw [hadd.1, hadd.2] at q1
            refine ⟨_, by rw [Nat.zero_add]; exact q1, fun e0 e1 => ?_, m1, m2⟩
            have := q2 e1
            rw [show i * n = 0 from by rw [show i = 0 from by omega, Nat.zero_mul]] at this
            unfold Addr.add at this
            simpa using this
          obtain ⟨xs, x1, x2⟩ := all_choice (R := fun i x y => ok y ∧ (f y).length = n ∧ ∀ (j : Nat) (z : V), (f y)[j]? = some z → ∃ v, look w.heap a.block (a.off + i * n + j) = some v ∧ (i = 0 → j = 0 → a.spot = none) ∧ v.oneCell' = true ∧ RV (cz w) v z) elems 0 hall
          have hx : ∀ (i : Nat) (y : α), xs[i]? = some y → ok y ∧ (f y).length = n ∧ ∀ (j : Nat) (z : V), (f y)[j]? = some z → ∃ v, look w.heap a.block (a.off + i * n + j) = some v ∧ (i = 0 → j = 0 → a.spot = none) ∧ v.oneCell' = true ∧ RV (cz w) v z := by
            intro i y hy
            have hi : i < elems.length := by rw [← x1]; exact lt_of_get hy
            have := x2 i _ y (List.getElem?_eq_getElem hi) hy
            rw [Nat.zero_add] at this; exact this
          refine ⟨xs, ⟨by omega, fun y hy => ?_⟩, rfl, rfl, one_get rfl ?_⟩
          · obtain ⟨i, hi⟩ := List.getElem?_of_mem hy
            exact (hx i y hi).1
          · have hrow : ∀ (i : Nat) (row : List V), (xs.map f)[i]? = some row → row.length = n ∧ ∀ (j : Nat) (z : V), row[j]? = some z → ∃ v, look w.heap a.block (a.off + i * n + j) = some v ∧ (i = 0 → j = 0 → a.spot = none) ∧ v.oneCell' = true ∧ RV (cz w) v z := by
              intro i row hi
              rw [List.getElem?_map, Option.map_eq_some_iff] at hi
              obtain ⟨y, hy, rfl⟩ := hi
              exact (hx i y hy).2
            have hl2 : len = (xs.map f).length := by simp [x1, hlen]
            rw [hl2]
            refine .view (fun i j => (look w.heap a.block (a.off + i * n + j)).getD undef) (fun hne => ?_) (by rw [← hl2]; exact hlc) (fun i row hi => (hrow i row hi).1) (fun i row hi j z hz => ?_) fun i row hi j z hz => ?_
            · have h0 : ∃ row, (xs.map f)[0]? = some row := by
                cases hq : xs.map f with
                | nil => exact (hne hq).elim
                | cons r l => exact ⟨r, rfl⟩
              obtain ⟨row, h0⟩ := h0
              obtain ⟨r1, r2⟩ := hrow 0 row h0
              obtain ⟨v, l1, l2, _⟩ := r2 0 _ (List.getElem?_eq_getElem (by omega))
              refine ⟨cz_own w _, ?_, l2 rfl rfl⟩
              unfold look at l1
              split at l1
              · next hb => exact hp_lt hb
              · cases l1
            · obtain ⟨v, l1, _, l3, _⟩ := (hrow i row hi).2 j z hz
              refine ⟨by show look w.heap _ _ = _; rw [l1]; rfl, by rw [l1]; exact l3⟩
            · obtain ⟨v, l1, _, _, l4⟩ := (hrow i row hi).2 j z hz
              rw [l1]; exact cz_only l4
        · cases h
    · simp at h

end
end Go.Abs
