import Derived.Test.YtgbkambljlijmaaGreatRmV3
import Derived.Test.YtgbkambljlijmaaGreatProg
import Derived.KernelRfl
import GoSem.ClaimChange
import GoSem.ClaimJoined
import Derived.Below
import Derived.Laws.Strings
set_option linter.all false
namespace Go.Abs.G
open Go.Proofs
set_option linter.unusedVariables false
def hallmarklaw4_ModelHolds.id : FuncId := 3
@[simp] theorem hallmarklaw4_ModelHolds.okf : okFunc Tryz.prog hallmarklaw4_ModelHolds.id = true := by kernel_rfl
def hallmarklaw4_few.id : FuncId := 5
@[simp] theorem hallmarklaw4_few.okf : okFunc Tryz.prog hallmarklaw4_few.id = true := by kernel_rfl
def hallmarkroom_Room_Con.id : FuncId := 6
@[simp] theorem hallmarkroom_Room_Con.okf : okFunc Tryz.prog hallmarkroom_Room_Con.id = true := by kernel_rfl
def hallmarkroom_Room_Ints.id : FuncId := 7
@[simp] theorem hallmarkroom_Room_Ints.okf : okFunc Tryz.prog hallmarkroom_Room_Ints.id = true := by kernel_rfl
def hallmarkref4_Holds.id : FuncId := 8
@[simp] theorem hallmarkref4_Holds.okf : okFunc Tryz.prog hallmarkref4_Holds.id = true := by kernel_rfl
def model_Holds.id : FuncId := 9
@[simp] theorem model_Holds.okf : okFunc Tryz.prog model_Holds.id = true := by kernel_rfl
def hallmarklaw4_sameInts.id : FuncId := 10
@[simp] theorem hallmarklaw4_sameInts.okf : okFunc Tryz.prog hallmarklaw4_sameInts.id = true := by kernel_rfl
def hallmarkref4_Same.id : FuncId := 11
@[simp] theorem hallmarkref4_Same.okf : okFunc Tryz.prog hallmarkref4_Same.id = true := by kernel_rfl
def hallmarkroom_Room_Hold.id : FuncId := 12
@[simp] theorem hallmarkroom_Room_Hold.okf : okFunc Tryz.prog hallmarkroom_Room_Hold.id = true := by kernel_rfl
def hallmarkroom_Many.id : FuncId := 26
@[simp] theorem hallmarkroom_Many.okf : okFunc Tryz.prog hallmarkroom_Many.id = true := by kernel_rfl
def hallmarkroom_Count_Model.id : FuncId := 27
@[simp] theorem hallmarkroom_Count_Model.okf : okFunc Tryz.prog hallmarkroom_Count_Model.id = true := by kernel_rfl
def hallmarkroom_Count_Add.id : FuncId := 28
@[simp] theorem hallmarkroom_Count_Add.okf : okFunc Tryz.prog hallmarkroom_Count_Add.id = true := by kernel_rfl
def hallmarkroom_Count_Ok.id : FuncId := 29
@[simp] theorem hallmarkroom_Count_Ok.okf : okFunc Tryz.prog hallmarkroom_Count_Ok.id = true := by kernel_rfl
def hallmarkroom_Room_Terms.id : FuncId := 30
@[simp] theorem hallmarkroom_Room_Terms.okf : okFunc Tryz.prog hallmarkroom_Room_Terms.id = true := by kernel_rfl
def hallmarkroom_Room_Lists.id : FuncId := 31
@[simp] theorem hallmarkroom_Room_Lists.okf : okFunc Tryz.prog hallmarkroom_Room_Lists.id = true := by kernel_rfl
def hallmarkroom_Room_layInts.id : FuncId := 32
@[simp] theorem hallmarkroom_Room_layInts.okf : okFunc Tryz.prog hallmarkroom_Room_layInts.id = true := by kernel_rfl
def hallmarkref4_Con.id : FuncId := 33
@[simp] theorem hallmarkref4_Con.okf : okFunc Tryz.prog hallmarkref4_Con.id = true := by kernel_rfl
def hallmarkref4_numbers.id : FuncId := 34
@[simp] theorem hallmarkref4_numbers.okf : okFunc Tryz.prog hallmarkref4_numbers.id = true := by kernel_rfl
def hallmarkref4_linear.id : FuncId := 35
@[simp] theorem hallmarkref4_linear.okf : okFunc Tryz.prog hallmarkref4_linear.id = true := by kernel_rfl
def hallmarkref4_sum.id : FuncId := 36
@[simp] theorem hallmarkref4_sum.okf : okFunc Tryz.prog hallmarkref4_sum.id = true := by kernel_rfl
def hallmarkref4_different.id : FuncId := 37
@[simp] theorem hallmarkref4_different.okf : okFunc Tryz.prog hallmarkref4_different.id = true := by kernel_rfl
def hallmarkref4_best.id : FuncId := 38
@[simp] theorem hallmarkref4_best.okf : okFunc Tryz.prog hallmarkref4_best.id = true := by kernel_rfl
def hallmarkref4_tabled.id : FuncId := 39
@[simp] theorem hallmarkref4_tabled.okf : okFunc Tryz.prog hallmarkref4_tabled.id = true := by kernel_rfl
def hallmarkref4_counted.id : FuncId := 40
@[simp] theorem hallmarkref4_counted.okf : okFunc Tryz.prog hallmarkref4_counted.id = true := by kernel_rfl
def model_con.id : FuncId := 41
@[simp] theorem model_con.okf : okFunc Tryz.prog model_con.id = true := by kernel_rfl
def model_sized.id : FuncId := 42
@[simp] theorem model_sized.okf : okFunc Tryz.prog model_sized.id = true := by kernel_rfl
def model_kinds.id : FuncId := 43
@[simp] theorem model_kinds.okf : okFunc Tryz.prog model_kinds.id = true := by kernel_rfl
def model_Holds_1.id : FuncId := 44
@[simp] theorem model_Holds_1.okf : okFunc Tryz.prog model_Holds_1.id = true := by kernel_rfl
def hallmarkref4_sameTerms.id : FuncId := 45
@[simp] theorem hallmarkref4_sameTerms.okf : okFunc Tryz.prog hallmarkref4_sameTerms.id = true := by kernel_rfl
def hallmarkref4_sameCon.id : FuncId := 46
@[simp] theorem hallmarkref4_sameCon.okf : okFunc Tryz.prog hallmarkref4_sameCon.id = true := by kernel_rfl
def hallmarkroom_Room_holdInts.id : FuncId := 47
@[simp] theorem hallmarkroom_Room_holdInts.okf : okFunc Tryz.prog hallmarkroom_Room_holdInts.id = true := by kernel_rfl
def hallmarkroom_Room_holdTexts.id : FuncId := 48
@[simp] theorem hallmarkroom_Room_holdTexts.okf : okFunc Tryz.prog hallmarkroom_Room_holdTexts.id = true := by kernel_rfl
def hallmarkroom_Room_holdTerms.id : FuncId := 49
@[simp] theorem hallmarkroom_Room_holdTerms.okf : okFunc Tryz.prog hallmarkroom_Room_holdTerms.id = true := by kernel_rfl
def hallmarkroom_Room_holdVars.id : FuncId := 50
@[simp] theorem hallmarkroom_Room_holdVars.okf : okFunc Tryz.prog hallmarkroom_Room_holdVars.id = true := by kernel_rfl
def hallmarkroom_Room_holdPieces.id : FuncId := 51
@[simp] theorem hallmarkroom_Room_holdPieces.okf : okFunc Tryz.prog hallmarkroom_Room_holdPieces.id = true := by kernel_rfl
def hallmarkroom_Room_holdOps.id : FuncId := 52
@[simp] theorem hallmarkroom_Room_holdOps.okf : okFunc Tryz.prog hallmarkroom_Room_holdOps.id = true := by kernel_rfl
def hallmarkroom_Room_holdCuts.id : FuncId := 53
@[simp] theorem hallmarkroom_Room_holdCuts.okf : okFunc Tryz.prog hallmarkroom_Room_holdCuts.id = true := by kernel_rfl
def hallmarkroom_Room_holdMeans.id : FuncId := 54
@[simp] theorem hallmarkroom_Room_holdMeans.okf : okFunc Tryz.prog hallmarkroom_Room_holdMeans.id = true := by kernel_rfl
def hallmarkroom_Room_holdLists.id : FuncId := 55
@[simp] theorem hallmarkroom_Room_holdLists.okf : okFunc Tryz.prog hallmarkroom_Room_holdLists.id = true := by kernel_rfl
def hallmarkroom_Room_holdCons.id : FuncId := 56
@[simp] theorem hallmarkroom_Room_holdCons.okf : okFunc Tryz.prog hallmarkroom_Room_holdCons.id = true := by kernel_rfl
def hallmarkroom_Room_holdRows.id : FuncId := 57
@[simp] theorem hallmarkroom_Room_holdRows.okf : okFunc Tryz.prog hallmarkroom_Room_holdRows.id = true := by kernel_rfl
def hallmarkroom_Room_holdSteps.id : FuncId := 58
@[simp] theorem hallmarkroom_Room_holdSteps.okf : okFunc Tryz.prog hallmarkroom_Room_holdSteps.id = true := by kernel_rfl
def hallmarkroom_Room_holdCauses.id : FuncId := 59
@[simp] theorem hallmarkroom_Room_holdCauses.okf : okFunc Tryz.prog hallmarkroom_Room_holdCauses.id = true := by kernel_rfl
def hallmarkroom_Room_holdActs.id : FuncId := 60
@[simp] theorem hallmarkroom_Room_holdActs.okf : okFunc Tryz.prog hallmarkroom_Room_holdActs.id = true := by kernel_rfl
def hallmarkref4_many.id : FuncId := 64
@[simp] theorem hallmarkref4_many.okf : okFunc Tryz.prog hallmarkref4_many.id = true := by kernel_rfl
def hallmarkref4_terms.id : FuncId := 65
@[simp] theorem hallmarkref4_terms.okf : okFunc Tryz.prog hallmarkref4_terms.id = true := by kernel_rfl
def model_sum.id : FuncId := 74
@[simp] theorem model_sum.okf : okFunc Tryz.prog model_sum.id = true := by kernel_rfl
def hallmarkroom_Count_Text.id : FuncId := 76
@[simp] theorem hallmarkroom_Count_Text.okf : okFunc Tryz.prog hallmarkroom_Count_Text.id = true := by kernel_rfl
def hallmarkroom_Count_Con.id : FuncId := 77
@[simp] theorem hallmarkroom_Count_Con.okf : okFunc Tryz.prog hallmarkroom_Count_Con.id = true := by kernel_rfl
def hallmarkroom_Room_layTerms.id : FuncId := 78
@[simp] theorem hallmarkroom_Room_layTerms.okf : okFunc Tryz.prog hallmarkroom_Room_layTerms.id = true := by kernel_rfl
def hallmarkroom_Room_layLists.id : FuncId := 79
@[simp] theorem hallmarkroom_Room_layLists.okf : okFunc Tryz.prog hallmarkroom_Room_layLists.id = true := by kernel_rfl
def hallmarkroom_lot.id : FuncId := 80
@[simp] theorem hallmarkroom_lot.okf : okFunc Tryz.prog hallmarkroom_lot.id = true := by kernel_rfl
def hallmarkref4_foreign.id : FuncId := 81
@[simp] theorem hallmarkref4_foreign.okf : okFunc Tryz.prog hallmarkref4_foreign.id = true := by kernel_rfl
def hallmarkref4_lists.id : FuncId := 82
@[simp] theorem hallmarkref4_lists.okf : okFunc Tryz.prog hallmarkref4_lists.id = true := by kernel_rfl
def hallmarkref4_rows.id : FuncId := 83
@[simp] theorem hallmarkref4_rows.okf : okFunc Tryz.prog hallmarkref4_rows.id = true := by kernel_rfl
def hallmarkref4_places.id : FuncId := 84
@[simp] theorem hallmarkref4_places.okf : okFunc Tryz.prog hallmarkref4_places.id = true := by kernel_rfl
def hallmarkref4_Number.id : FuncId := 85
@[simp] theorem hallmarkref4_Number.okf : okFunc Tryz.prog hallmarkref4_Number.id = true := by kernel_rfl
def hallmarkref4_Row.id : FuncId := 86
@[simp] theorem hallmarkref4_Row.okf : okFunc Tryz.prog hallmarkref4_Row.id = true := by kernel_rfl
def model_terms.id : FuncId := 87
@[simp] theorem model_terms.okf : okFunc Tryz.prog model_terms.id = true := by kernel_rfl
def model_con_1.id : FuncId := 88
@[simp] theorem model_con_1.okf : okFunc Tryz.prog model_con_1.id = true := by kernel_rfl
def model_field.id : FuncId := 89
@[simp] theorem model_field.okf : okFunc Tryz.prog model_field.id = true := by kernel_rfl
def model_counts.id : FuncId := 90
@[simp] theorem model_counts.okf : okFunc Tryz.prog model_counts.id = true := by kernel_rfl
def model_wide.id : FuncId := 91
@[simp] theorem model_wide.okf : okFunc Tryz.prog model_wide.id = true := by kernel_rfl
def slices_ContainsFunc_Lint_int.id : FuncId := 92
@[simp] theorem slices_ContainsFunc_Lint_int.okf : okFunc Tryz.prog slices_ContainsFunc_Lint_int.id = true := by kernel_rfl
def model_within.id : FuncId := 93
@[simp] theorem model_within.okf : okFunc Tryz.prog model_within.id = true := by kernel_rfl
def model_great.id : FuncId := 94
@[simp] theorem model_great.okf : okFunc Tryz.prog model_great.id = true := by kernel_rfl
def slices_ContainsFunc_LLint_Lint.id : FuncId := 95
@[simp] theorem slices_ContainsFunc_LLint_Lint.okf : okFunc Tryz.prog slices_ContainsFunc_LLint_Lint.id = true := by kernel_rfl
def model_lin.id : FuncId := 96
@[simp] theorem model_lin.okf : okFunc Tryz.prog model_lin.id = true := by kernel_rfl
def model_kinds_1.id : FuncId := 97
@[simp] theorem model_kinds_1.okf : okFunc Tryz.prog model_kinds_1.id = true := by kernel_rfl
def model_allDiff.id : FuncId := 98
@[simp] theorem model_allDiff.okf : okFunc Tryz.prog model_allDiff.id = true := by kernel_rfl
def model_element.id : FuncId := 99
@[simp] theorem model_element.okf : okFunc Tryz.prog model_element.id = true := by kernel_rfl
def model_kinds_2.id : FuncId := 100
@[simp] theorem model_kinds_2.okf : okFunc Tryz.prog model_kinds_2.id = true := by kernel_rfl
def slices_Max_Lint_int.id : FuncId := 101
@[simp] theorem slices_Max_Lint_int.okf : okFunc Tryz.prog slices_Max_Lint_int.id = true := by kernel_rfl
def model_each.id : FuncId := 102
@[simp] theorem model_each.okf : okFunc Tryz.prog model_each.id = true := by kernel_rfl
def model_kinds_3.id : FuncId := 103
@[simp] theorem model_kinds_3.okf : okFunc Tryz.prog model_kinds_3.id = true := by kernel_rfl
def slices_Min_Lint_int.id : FuncId := 104
@[simp] theorem slices_Min_Lint_int.okf : okFunc Tryz.prog slices_Min_Lint_int.id = true := by kernel_rfl
def model_reif.id : FuncId := 105
@[simp] theorem model_reif.okf : okFunc Tryz.prog model_reif.id = true := by kernel_rfl
def model_table.id : FuncId := 106
@[simp] theorem model_table.okf : okFunc Tryz.prog model_table.id = true := by kernel_rfl
def model_count.id : FuncId := 107
@[simp] theorem model_count.okf : okFunc Tryz.prog model_count.id = true := by kernel_rfl
def hallmarkref4_sameRows.id : FuncId := 108
@[simp] theorem hallmarkref4_sameRows.okf : okFunc Tryz.prog hallmarkref4_sameRows.id = true := by kernel_rfl
def hallmarkref4_sameInts.id : FuncId := 109
@[simp] theorem hallmarkref4_sameInts.okf : okFunc Tryz.prog hallmarkref4_sameInts.id = true := by kernel_rfl
def hallmarkroom_word.id : FuncId := 110
@[simp] theorem hallmarkroom_word.okf : okFunc Tryz.prog hallmarkroom_word.id = true := by kernel_rfl
def hallmarkref4_Coef.id : FuncId := 115
@[simp] theorem hallmarkref4_Coef.okf : okFunc Tryz.prog hallmarkref4_Coef.id = true := by kernel_rfl
def hallmarkroom_Count_Lists.id : FuncId := 120
@[simp] theorem hallmarkroom_Count_Lists.okf : okFunc Tryz.prog hallmarkroom_Count_Lists.id = true := by kernel_rfl
def hallmarkref4_place.id : FuncId := 121
@[simp] theorem hallmarkref4_place.okf : okFunc Tryz.prog hallmarkref4_place.id = true := by kernel_rfl
def hallmarkref4_size.id : FuncId := 122
@[simp] theorem hallmarkref4_size.okf : okFunc Tryz.prog hallmarkref4_size.id = true := by kernel_rfl
def model_wide_1.id : FuncId := 123
@[simp] theorem model_wide_1.okf : okFunc Tryz.prog model_wide_1.id = true := by kernel_rfl
def slices_IndexFunc_Lint_int.id : FuncId := 124
@[simp] theorem slices_IndexFunc_Lint_int.okf : okFunc Tryz.prog slices_IndexFunc_Lint_int.id = true := by kernel_rfl
def model_great_1.id : FuncId := 125
@[simp] theorem model_great_1.okf : okFunc Tryz.prog model_great_1.id = true := by kernel_rfl
def slices_IndexFunc_LLint_Lint.id : FuncId := 126
@[simp] theorem slices_IndexFunc_LLint_Lint.okf : okFunc Tryz.prog slices_IndexFunc_LLint_Lint.id = true := by kernel_rfl
def model_is.id : FuncId := 127
@[simp] theorem model_is.okf : okFunc Tryz.prog model_is.id = true := by kernel_rfl
def slices_Compact_Lint_int.id : FuncId := 129
@[simp] theorem slices_Compact_Lint_int.okf : okFunc Tryz.prog slices_Compact_Lint_int.id = true := by kernel_rfl
def model_table_1.id : FuncId := 130
@[simp] theorem model_table_1.okf : okFunc Tryz.prog model_table_1.id = true := by kernel_rfl
def slices_Equal_Lint_int.id : FuncId := 131
@[simp] theorem slices_Equal_Lint_int.okf : okFunc Tryz.prog slices_Equal_Lint_int.id = true := by kernel_rfl
-- hallmark/hallmarklaw4.ModelHolds
def hallmarklaw4_ModelHolds.ann : List (Nat × RA) := [(0, rk [1, 2]), (1, rp [1, 2, 14] [(1, [1000004])]), (2, rk [4]), (3, { gs := [(2, [.wk])], keep := some [1, 2, 5] }), (4, rp [1, 2, 5, 6, 7] [(2, [1000000]), (5, [1000000])]), (5, rk [1, 2, 5, 6, 7, 8]), (6, rp [4] [(19, [1000004]), (22, [1000004]), (28, [1000000])])]
def hallmarklaw4_ModelHolds.ir : C := .seq (.reg 1 [.o 0 (.box (some 2) 0 10 (.tmp 0)), zb 1 4 false, .g (.keep [1, 2])]) (.seq (.seq (.reg 1 [zL 0 9 10 2, .o 1 (.bsv (some 10) 10 1 [.a (.int .i64 0), .a (.int .i64 0), .a (.slice none 0 0), .a (.int .i64 0), .a (.int .i64 0), .a (.int .i64 0), .a (.int .i64 0), .a (.slice none 0 0), .a (.slice none 0 0), .a (.slice none 0 0)] [(0, (.tmp 9))]), .o 2 (.lt (some 11) (.build [.a (.slice none 0 0), .a (.slice none 0 0), .a (.bool false), .a (.slice none 0 0)] [(1, 1, (.tmp 10))])), zm 3 12 1, .o 4 (.call (some 13) hallmarklaw4_few.id [(.tmp 11), (.tmp 12)]), zq 5 14 13, .g (.keep [1, 2, 14])]) (.cond (.tmp 14) (.seq (.reg 0 [zb 0 4 true, .g (.keep [4])]) (.ret)) (.skip))) (.seq (.reg 1 [.o 0 (.lt (some 15) (.build [.a (.slice none 0 0), .a (.slice none 0 0), .a (.slice none 0 0), .a (.slice none 0 0), .a (.slice none 0 0), .a (.slice none 0 0), .a (.slice none 0 0), .a (.slice none 0 0), .a (.slice none 0 0), .a (.slice none 0 0), .a (.slice none 0 0), .a (.slice none 0 0), .a (.slice none 0 0), .a (.slice none 0 0), .a (.slice none 0 0), .a (.slice none 0 0), .a (.slice none 0 0), .a (.slice none 0 0), .a (.slice none 0 0), .a (.slice none 0 0), .a (.slice none 0 0), .a (.slice none 0 0), .a (.slice none 0 0), .a (.slice none 0 0), .a (.slice none 0 0), .a (.slice none 0 0), .a (.slice none 0 0), .a (.slice none 0 0)] [])), .o 1 (.box (some 16) 0 28 (.tmp 15)), .g (.wk), zm 2 5 16, .g (.keep [1, 2, 5])]) (.seq (.reg 1 [zm 0 17 5, zL 1 18 10 2, .o 2 (.callm (some 19) (.func hallmarkroom_Room_Con.id) [(.tmp 17), (.tmp 18)]), zm 3 20 5, zm 4 21 1, .o 5 (.callm (some 22) (.func hallmarkroom_Room_Ints.id) [(.tmp 20), (.tmp 21)]), .o 6 (.alloc (some 6) 0 10 [.a (.int .i64 0), .a (.int .i64 0), .a (.slice none 0 0), .a (.int .i64 0), .a (.int .i64 0), .a (.int .i64 0), .a (.int .i64 0), .a (.slice none 0 0), .a (.slice none 0 0), .a (.slice none 0 0)]), .o 7 (.store [] 10 (.tmp 6) (.tmp 19)), zm 8 7 22, .g (.keep [1, 2, 5, 6, 7])]) (.seq (.reg 0 [zL 0 23 10 2, zm 1 24 1, .o 2 (.call (some 25) hallmarkref4_Holds.id [(.tmp 23), (.tmp 24)]), zm 3 8 25, .g (.keep [1, 2, 5, 6, 7, 8])]) (.seq (.reg 2 [zL 0 26 10 6, zm 1 27 7, .o 2 (.call (some 28) model_Holds.id [(.tmp 26), (.tmp 27)]), zm 3 29 8, zy 4 30 false 28 29, zm 5 31 30, yL 6 31 true 32 10 6, ym 7 31 true 33 7, .gd 8 31 true (some 34) (.call (some 34) model_Holds.id [(.tmp 32), (.tmp 33)]), ym 9 31 true 35 8, yy 10 31 true 36 false 34 35, zr 11 37 31 36 false, zm 12 38 37, ym 13 38 true 39 7, ym 14 38 true 40 1, .gd 15 38 true (some 41) (.call (some 41) hallmarklaw4_sameInts.id [(.tmp 39), (.tmp 40)]), zr 16 42 38 41 false, zm 17 43 42, yL 18 43 true 44 10 6, .gd 19 43 true (some 45) (.bsv (some 45) 10 1 [.a (.int .i64 0), .a (.int .i64 0), .a (.slice none 0 0), .a (.int .i64 0), .a (.int .i64 0), .a (.int .i64 0), .a (.int .i64 0), .a (.slice none 0 0), .a (.slice none 0 0), .a (.slice none 0 0)] [(0, (.tmp 44))]), .gd 20 43 true (some 46) (.lt (some 46) (.build [.a (.slice none 0 0), .a (.slice none 0 0), .a (.bool false), .a (.slice none 0 0)] [(1, 1, (.tmp 45))])), yL 21 43 true 47 10 2, .gd 22 43 true (some 48) (.bsv (some 48) 10 1 [.a (.int .i64 0), .a (.int .i64 0), .a (.slice none 0 0), .a (.int .i64 0), .a (.int .i64 0), .a (.int .i64 0), .a (.int .i64 0), .a (.slice none 0 0), .a (.slice none 0 0), .a (.slice none 0 0)] [(0, (.tmp 47))]), .gd 23 43 true (some 49) (.lt (some 49) (.build [.a (.slice none 0 0), .a (.slice none 0 0), .a (.bool false), .a (.slice none 0 0)] [(1, 1, (.tmp 48))])), .gd 24 43 true (some 50) (.call (some 50) hallmarkref4_Same.id [(.tmp 46), (.tmp 49)]), zr 25 51 43 50 false, zm 26 52 51, ym 27 52 true 53 5, .gd 28 52 true (some 54) (.callm (some 54) (.func hallmarkroom_Room_Hold.id) [(.tmp 53)]), zr 29 55 52 54 false, zm 30 4 55, .g (.keep [4])]) (.ret))))))
def hallmarklaw4_ModelHolds.rs : List Rs := [.sl 4]
theorem hallmarklaw4_ModelHolds.ok : isFn Tryz.prog hallmarklaw4_ModelHolds.id 56 hallmarklaw4_ModelHolds.ann hallmarklaw4_ModelHolds.ir hallmarklaw4_ModelHolds.rs := ⟨Tryz.f3, _, Tryz.func3, rfl, rfl, by kernel_rfl, by kernel_rfl⟩
-- hallmark/hallmarklaw4.ModelTells
-- hallmark/hallmarklaw4.few
def hallmarklaw4_few.ann : List (Nat × RA) := [(0, rk [1, 2]), (1, rp [1, 2, 5] [(0, [1000000])]), (2, rp [1, 5] [(2, [1000000])]), (3, rp [5] [(3, [1000000])]), (4, rp [4] [(1, [1000000])])]
def hallmarklaw4_few.ir : C := .seq (.reg 1 [.o 0 (.box (some 2) 0 4 (.tmp 0)), zb 1 4 false, .g (.keep [1, 2])]) (.seq (.reg 0 [.o 0 (.callm (some 6) (.func hallmarkroom_Many.id) [(.const (.int .i64 20000))]), zm 1 5 6, .g (.keep [1, 2, 5])]) (.seq (.reg 0 [zm 0 7 5, zL 1 8 4 2, .o 2 (.callm (some 9) (.func hallmarkroom_Count_Model.id) [(.tmp 7), (.tmp 8)]), .g (.keep [1, 5])]) (.seq (.reg 0 [zm 0 10 5, zm 1 11 1, zn 2 12 11, .o 3 (.callm (some 13) (.func hallmarkroom_Count_Add.id) [(.tmp 10), (.tmp 12)]), .g (.keep [5])]) (.seq (.reg 0 [zm 0 14 5, .o 1 (.callm (some 15) (.func hallmarkroom_Count_Ok.id) [(.tmp 14)]), zm 2 4 15, .g (.keep [4])]) (.ret)))))
def hallmarklaw4_few.rs : List Rs := [.sl 4]
theorem hallmarklaw4_few.ok : isFn Tryz.prog hallmarklaw4_few.id 16 hallmarklaw4_few.ann hallmarklaw4_few.ir hallmarklaw4_few.rs := ⟨Tryz.f5, _, Tryz.func5, rfl, rfl, by kernel_rfl, by kernel_rfl⟩
-- (*hallmark/hallmarkroom.Room).Con
def hallmarkroom_Room_Con.ann : List (Nat × RA) := [(0, rk [0, 3, 4]), (1, rp [0, 3, 4] [(3, [1000000])]), (2, rp [0, 3, 4] [(3, [1000000])]), (3, rp [0, 3, 4] [(3, [1000000])]), (4, rp [3, 4] [(3, [1000000])]), (5, rk [4])]
def hallmarkroom_Room_Con.ir : C := .seq (.reg 2 [.o 0 (.box (some 3) 0 10 (.tmp 1)), .o 1 (.alloc (some 4) 1 10 [.a (.int .i64 0), .a (.int .i64 0), .a (.slice none 0 0), .a (.int .i64 0), .a (.int .i64 0), .a (.int .i64 0), .a (.int .i64 0), .a (.slice none 0 0), .a (.slice none 0 0), .a (.slice none 0 0)]), .g (.keep [0, 3, 4])]) (.seq (.reg 0 [zm 0 5 0, zf 1 6 3 2, zl 2 7 1 6, .o 3 (.callm (some 8) (.func hallmarkroom_Room_Terms.id) [(.tmp 5), (.tmp 7)]), zf 4 9 3 2, .o 5 (.store [] 1 (.tmp 9) (.tmp 8)), .g (.keep [0, 3, 4])]) (.seq (.reg 0 [zm 0 10 0, zf 1 11 3 7, zl 2 12 1 11, .o 3 (.callm (some 13) (.func hallmarkroom_Room_Ints.id) [(.tmp 10), (.tmp 12)]), zf 4 14 3 7, .o 5 (.store [] 1 (.tmp 14) (.tmp 13)), .g (.keep [0, 3, 4])]) (.seq (.reg 0 [zm 0 15 0, zf 1 16 3 8, zl 2 17 1 16, .o 3 (.callm (some 18) (.func hallmarkroom_Room_Ints.id) [(.tmp 15), (.tmp 17)]), zf 4 19 3 8, .o 5 (.store [] 1 (.tmp 19) (.tmp 18)), .g (.keep [0, 3, 4])]) (.seq (.reg 0 [zm 0 20 0, zf 1 21 3 9, zl 2 22 1 21, .o 3 (.callm (some 23) (.func hallmarkroom_Room_Lists.id) [(.tmp 20), (.tmp 22)]), zf 4 24 3 9, .o 5 (.store [] 1 (.tmp 24) (.tmp 23)), .g (.keep [3, 4])]) (.seq (.reg 0 [zL 0 25 10 3, .o 1 (.store [] 10 (.tmp 4) (.tmp 25)), .g (.keep [4])]) (.ret))))))
def hallmarkroom_Room_Con.rs : List Rs := [.ce 4 true 10]
theorem hallmarkroom_Room_Con.ok : isFn Tryz.prog hallmarkroom_Room_Con.id 26 hallmarkroom_Room_Con.ann hallmarkroom_Room_Con.ir hallmarkroom_Room_Con.rs := ⟨Tryz.f6, _, Tryz.func6, rfl, rfl, by kernel_rfl, by kernel_rfl⟩
-- (*hallmark/hallmarkroom.Room).Ints
def hallmarkroom_Room_Ints.ann : List (Nat × RA) := [(0, rk [0, 1]), (1, rp [4] [(2, [1000000])])]
def hallmarkroom_Room_Ints.ir : C := .seq (.reg 0 [.o 0 (.lt (some 4) (.mov (.const (.slice none 0 0)))), .g (.keep [0, 1])]) (.seq (.reg 0 [zm 0 5 0, zm 1 6 1, .o 2 (.callm (some 7) (.func hallmarkroom_Room_layInts.id) [(.tmp 5), (.tmp 6), (.const (.int .i64 40))]), zm 3 4 7, .g (.keep [4])]) (.ret))
def hallmarkroom_Room_Ints.rs : List Rs := [.sl 4]
theorem hallmarkroom_Room_Ints.ok : isFn Tryz.prog hallmarkroom_Room_Ints.id 8 hallmarkroom_Room_Ints.ann hallmarkroom_Room_Ints.ir hallmarkroom_Room_Ints.rs := ⟨Tryz.f7, _, Tryz.func7, rfl, rfl, by kernel_rfl, by kernel_rfl⟩
-- hallmark/hallmarkref4.Holds
def hallmarkref4_Holds.ann : List (Nat × RA) := [(0, rk [1, 2]), (1, rk [1, 2, 16]), (2, rk [4]), (3, rk [1, 2, 18]), (4, rk [1, 2, 18, 19]), (5, ro [4] [0, 1, 2, 3, 4, 6, 7, 5, 8, 9]), (6, rk [1, 2, 18, 30]), (7, ro [4] [0, 1, 2, 3, 4, 5, 6, 7, 8, 9, 10, 11, 12, 13, 14]), (8, rk [1, 2, 18, 46]), (9, rk [4]), (10, rk [1, 2, 18, 52]), (11, rk [1, 2, 5]), (12, ro [4] [0, 1, 2, 3, 4, 5, 6, 7, 8, 9, 10, 11, 12, 13, 14, 15, 16, 17, 18, 19, 20, 21, 22]), (13, rk [1, 2, 18, 81]), (14, ro [4] [0, 1, 2, 3, 4, 5, 6, 7, 8, 9]), (15, rk [1, 2, 18, 92]), (16, ro [4] [0, 1, 2, 3, 4, 5, 6, 7, 8, 9]), (17, rk [1, 2, 18, 103]), (18, rk [4]), (19, rk [1, 2, 108]), (20, rk [4]), (21, rk [1, 2, 6]), (22, ro [6, 124] [0, 1, 2, 4, 5, 3, 6]), (23, rk [4]), (24, rk [4])]
def hallmarkref4_Holds.ir : C := .seq (.reg 1 [.o 0 (.box (some 2) 0 10 (.tmp 0)), zb 1 4 false, .g (.keep [1, 2])]) (.seq (.seq (.reg 0 [zL 0 7 10 2, zm 1 8 1, zn 2 9 8, .o 3 (.call (some 10) hallmarkref4_Con.id [(.tmp 7), (.tmp 9)]), zd 4 11 .neq 10 0, zm 5 12 11, ym 6 12 false 13 1, .gd 7 12 false (some 14) (.call (some 14) hallmarkref4_numbers.id [(.tmp 13)]), yq 8 12 false 15 14, zp 9 16 12 true 15, .g (.keep [1, 2, 16])]) (.cond (.tmp 16) (.seq (.reg 0 [zb 0 4 false, .g (.keep [4])]) (.ret)) (.skip))) (.seq (.seq (.reg 0 [zf 0 17 2 0, zl 1 18 1 17, .g (.keep [1, 2, 18])]) (.block 0 (.seq (.reg 0 [zd 0 20 .eql 18 1, zm 1 19 20, .g (.keep [1, 2, 18, 19])]) (.cond (.tmp 19) (.seq (.reg 0 [zf 0 21 2 1, zl 1 22 1 21, zf 2 23 2 2, zl 3 24 1 23, zm 4 25 1, zf 6 27 2 3, zl 7 28 1 27, .o 5 (.call (some 26) hallmarkref4_sum.id [(.tmp 24), (.tmp 25)]), .o 8 (.call (some 29) hallmarkref4_linear.id [(.tmp 22), (.tmp 26), (.tmp 28)]), zm 9 4 29, .g (.keep [4])]) (.ret)) (.seq (.reg 0 [zd 0 31 .eql 18 2, zm 1 30 31, .g (.keep [1, 2, 18, 30])]) (.cond (.tmp 30) (.seq (.reg 0 [zm 0 32 1, zf 1 33 2 5, zl 2 34 1 33, zx 3 35 1 32 34, zl 4 36 1 35, zm 5 37 1, zf 6 38 2 6, zl 7 39 1 38, zx 8 40 1 37 39, zl 9 41 1 40, zf 10 42 2 3, zl 11 43 1 42, za 12 44 .add 41 43, za 13 45 .neq 36 44, zm 14 4 45, .g (.keep [4])]) (.ret)) (.seq (.reg 0 [zd 0 47 .eql 18 3, zm 1 46 47, .g (.keep [1, 2, 18, 46])]) (.cond (.tmp 46) (.seq (.reg 0 [zf 0 48 2 7, zl 1 49 1 48, zm 2 50 1, .o 3 (.call (some 51) hallmarkref4_different.id [(.tmp 49), (.tmp 50)]), zm 4 4 51, .g (.keep [4])]) (.ret)) (.seq (.reg 0 [zd 0 53 .eql 18 4, zm 1 52 53, .g (.keep [1, 2, 18, 52])]) (.cond (.tmp 52) (.seq (.reg 0 [zm 0 54 1, zf 1 55 2 5, zl 2 56 1 55, zx 3 57 1 54 56, zl 4 58 1 57, zm 5 5 58, .g (.keep [1, 2, 5])]) (.seq (.reg 0 [zm 0 59 5, zd 1 60 .geq 59 0, zm 2 61 60, ym 3 61 true 62 5, yf 4 61 true 63 2 8, yl 5 61 true 64 1 63, yn 6 61 true 65 64, ya 7 61 true 66 .lss 62 65, zr 8 67 61 66 false, zm 9 68 67, yf 10 68 true 69 2 8, yl 11 68 true 70 1 69, ym 12 68 true 71 5, yx 13 68 true 72 1 70 71, yl 14 68 true 73 1 72, ym 15 68 true 74 1, yf 16 68 true 75 2 6, yl 17 68 true 76 1 75, yx 18 68 true 77 1 74 76, yl 19 68 true 78 1 77, ya 20 68 true 79 .eql 73 78, zr 21 80 68 79 false, zm 22 4 80, .g (.keep [4])]) (.ret))) (.seq (.reg 0 [zd 0 82 .eql 18 5, zm 1 81 82, .g (.keep [1, 2, 18, 81])]) (.cond (.tmp 81) (.seq (.reg 0 [zm 0 83 1, zf 1 84 2 6, zl 2 85 1 84, zx 3 86 1 83 85, zl 4 87 1 86, zf 5 88 2 7, zl 6 89 1 88, zm 7 90 1, .o 8 (.call (some 91) hallmarkref4_best.id [(.tmp 87), (.tmp 89), (.tmp 90), (.const (.int .i64 1))]), zm 9 4 91, .g (.keep [4])]) (.ret)) (.seq (.reg 0 [zd 0 93 .eql 18 6, zm 1 92 93, .g (.keep [1, 2, 18, 92])]) (.cond (.tmp 92) (.seq (.reg 0 [zm 0 94 1, zf 1 95 2 6, zl 2 96 1 95, zx 3 97 1 94 96, zl 4 98 1 97, zf 5 99 2 7, zl 6 100 1 99, zm 7 101 1, .o 8 (.call (some 102) hallmarkref4_best.id [(.tmp 98), (.tmp 100), (.tmp 101), (.const (.int .i64 (-1)))]), zm 9 4 102, .g (.keep [4])]) (.ret)) (.seq (.reg 0 [zd 0 104 .eql 18 8, zm 1 103 104, .g (.keep [1, 2, 18, 103])]) (.cond (.tmp 103) (.seq (.reg 0 [zL 0 105 10 2, zm 1 106 1, .o 2 (.call (some 107) hallmarkref4_tabled.id [(.tmp 105), (.tmp 106)]), zm 3 4 107, .g (.keep [4])]) (.ret)) (.seq (.reg 0 [zd 0 109 .eql 18 9, zm 1 108 109, .g (.keep [1, 2, 108])]) (.cond (.tmp 108) (.seq (.reg 0 [zL 0 110 10 2, zm 1 111 1, .o 2 (.call (some 112) hallmarkref4_counted.id [(.tmp 110), (.tmp 111)]), zm 3 4 112, .g (.keep [4])]) (.ret)) (.skip))))))))))))))))))) (.seq (.reg 0 [zm 0 113 1, zf 1 114 2 5, zl 2 115 1 114, zx 3 116 1 113 115, zl 4 117 1 116, zm 5 6 117, .g (.keep [1, 2, 6])]) (.seq (.seq (.reg 0 [zf 0 118 2 2, zl 1 119 1 118, zm 2 120 1, zf 4 122 2 3, zl 5 123 1 122, .o 3 (.call (some 121) hallmarkref4_sum.id [(.tmp 119), (.tmp 120)]), za 6 124 .leq 121 123, .g (.keep [6, 124])]) (.cond (.tmp 124) (.seq (.reg 0 [zm 0 125 6, zd 1 126 .eql 125 1, zm 2 4 126, .g (.keep [4])]) (.ret)) (.skip))) (.seq (.reg 0 [zm 0 127 6, zd 1 128 .eql 127 0, zm 2 4 128, .g (.keep [4])]) (.ret))))))
def hallmarkref4_Holds.rs : List Rs := [.sl 4]
theorem hallmarkref4_Holds.ok : isFn Tryz.prog hallmarkref4_Holds.id 129 hallmarkref4_Holds.ann hallmarkref4_Holds.ir hallmarkref4_Holds.rs := ⟨Tryz.f8, _, Tryz.func8, rfl, rfl, by kernel_rfl, by kernel_rfl⟩
-- hallmark/model.Holds
def model_Holds.ann : List (Nat × RA) := [(0, rk [2, 3]), (1, rk [2, 3, 14]), (2, rk [4]), (3, rq [4] [1, 2, 5, 6, 0, 3, 4, 7, 8] [(7, [1000001])])]
def model_Holds.ir : C := .seq (.reg 2 [.o 0 (.box (some 2) 0 10 (.tmp 0)), .o 1 (.box (some 3) 1 1 (.tmp 1)), zb 2 4 false, .g (.keep [2, 3])]) (.seq (.seq (.reg 0 [zL 0 5 10 2, zl 1 6 1 3, zn 2 7 6, .o 3 (.call (some 8) model_con.id [(.tmp 5), (.tmp 7)]), zd 4 9 .neq 8 0, zm 5 10 9, yl 6 10 false 11 1 3, .gd 7 10 false (some 12) (.call (some 12) model_sized.id [(.tmp 11)]), yq 8 10 false 13 12, zp 9 14 10 true 13, .g (.keep [2, 3, 14])]) (.cond (.tmp 14) (.seq (.reg 0 [zb 0 4 false, .g (.keep [4])]) (.ret)) (.skip))) (.seq (.reg 0 [zf 1 16 2 0, zl 2 17 1 16, zL 5 20 10 2, .o 6 (.lt (some 21) (.mkfn (.func model_Holds_1.id) [] [(.tmp 3)])), .o 0 (.call (some 15) model_kinds.id []), .o 3 (.lt (some 18) (.lkp false .i64 (.agg [.a (.bool false), .a (.bool false), .a (.bool false), .a (.bool false), .a (.bool false), .a (.bool false), .a (.bool false), .a (.bool false), .a (.bool false), .a (.nilFunc)]) (.tmp 15) (.tmp 17))), .o 4 (.lt (some 19) (.fld false 1 9 (.tmp 18))), .o 7 (.callb (some 22) (.tmp 19) [(.tmp 20), (.tmp 21)]), zm 8 4 22, .g (.keep [4])]) (.ret)))
def model_Holds.rs : List Rs := [.sl 4]
theorem model_Holds.ok : isFn Tryz.prog model_Holds.id 23 model_Holds.ann model_Holds.ir model_Holds.rs := ⟨Tryz.f9, _, Tryz.func9, rfl, rfl, by kernel_rfl, by kernel_rfl⟩
-- hallmark/hallmarklaw4.sameInts
def hallmarklaw4_sameInts.ann : List (Nat × RA) := [(0, rk [0, 1]), (1, rk [0, 1, 10]), (2, rk [4]), (3, rk [0, 1, 5]), (4, rk [0, 1, 5, 14]), (5, rk [0, 1, 5]), (6, ro [0, 1, 5, 25] [0, 1, 2, 3, 4, 5, 6, 7, 8]), (7, rk [4]), (8, rk [4])]
def hallmarklaw4_sameInts.b0 : C := .seq (.seq (.reg 0 [zm 0 11 5, zm 1 12 0, zn 2 13 12, za 3 14 .lss 11 13, .g (.keep [0, 1, 5, 14])]) (.cond (.tmp 14) (.skip) (.exit 0))) (.seq (.block 1 (.seq (.reg 0 [zm 0 17 0, zm 1 18 5, zx 2 19 1 17 18, zl 3 20 1 19, zm 4 21 1, zm 5 22 5, zx 6 23 1 21 22, zl 7 24 1 23, za 8 25 .neq 20 24, .g (.keep [0, 1, 5, 25])]) (.cond (.tmp 25) (.seq (.reg 0 [zb 0 4 false, .g (.keep [4])]) (.ret)) (.skip)))) (.reg 0 [zm 0 15 5, zd 1 16 .add 15 1, zm 2 5 16, .g (.keep [0, 1, 5])]))
def hallmarklaw4_sameInts.ir : C := .seq (.reg 0 [zb 0 4 false, .g (.keep [0, 1])]) (.seq (.seq (.reg 0 [zm 0 6 0, zn 1 7 6, zm 2 8 1, zn 3 9 8, za 4 10 .neq 7 9, .g (.keep [0, 1, 10])]) (.cond (.tmp 10) (.seq (.reg 0 [zb 0 4 false, .g (.keep [4])]) (.ret)) (.skip))) (.seq (.seq (.reg 0 [zk 0 5 0, .g (.keep [0, 1, 5])]) (.block 0 (.loop hallmarklaw4_sameInts.b0))) (.seq (.reg 0 [zb 0 4 true, .g (.keep [4])]) (.ret))))
def hallmarklaw4_sameInts.rs : List Rs := [.sl 4]
theorem hallmarklaw4_sameInts.ok : isFn Tryz.prog hallmarklaw4_sameInts.id 26 hallmarklaw4_sameInts.ann hallmarklaw4_sameInts.ir hallmarklaw4_sameInts.rs := ⟨Tryz.f10, _, Tryz.func10, rfl, rfl, by kernel_rfl, by kernel_rfl⟩
-- hallmark/hallmarkref4.Same
def hallmarkref4_Same.ann : List (Nat × RA) := [(0, rk [2, 3]), (1, rk [2, 3, 37]), (2, rk [4]), (3, rk [2, 3, 5]), (4, rk [2, 3, 5, 42]), (5, rk [2, 3, 5]), (6, ro [2, 3, 5, 55] [0, 1, 2, 3, 4, 5, 6, 7, 8, 9, 10]), (7, rk [4]), (8, rk [2, 3, 6]), (9, rk [2, 3, 6, 60]), (10, rk [2, 3, 6]), (11, ro [2, 3, 6, 74] [0, 1, 2, 3, 4, 5, 6, 7, 8, 9, 10, 11]), (12, rk [4]), (13, rk [4])]
def hallmarkref4_Same.b1 : C := .seq (.seq (.reg 0 [zm 0 56 6, zf 1 57 2 1, zl 2 58 1 57, zn 3 59 58, za 4 60 .lss 56 59, .g (.keep [2, 3, 6, 60])]) (.cond (.tmp 60) (.skip) (.exit 2))) (.seq (.block 3 (.seq (.reg 0 [zf 0 63 2 1, zl 1 64 1 63, zm 2 65 6, zx 3 66 10 64 65, zL 4 67 10 66, zf 5 68 3 1, zl 6 69 1 68, zm 7 70 6, zx 8 71 10 69 70, zL 9 72 10 71, .o 10 (.call (some 73) hallmarkref4_sameCon.id [(.tmp 67), (.tmp 72)]), zq 11 74 73, .g (.keep [2, 3, 6, 74])]) (.cond (.tmp 74) (.seq (.reg 0 [zb 0 4 false, .g (.keep [4])]) (.ret)) (.skip)))) (.reg 0 [zm 0 61 6, zd 1 62 .add 61 1, zm 2 6 62, .g (.keep [2, 3, 6])]))
def hallmarkref4_Same.b0 : C := .seq (.seq (.reg 0 [zm 0 38 5, zf 1 39 2 0, zl 2 40 1 39, zn 3 41 40, za 4 42 .lss 38 41, .g (.keep [2, 3, 5, 42])]) (.cond (.tmp 42) (.skip) (.exit 0))) (.seq (.block 1 (.seq (.reg 0 [zf 0 45 2 0, zl 1 46 1 45, zm 2 47 5, zx 3 48 3 46 47, zL 4 49 3 48, zf 5 50 3 0, zl 6 51 1 50, zm 7 52 5, zx 8 53 3 51 52, zL 9 54 3 53, .o 10 (.lt (some 55) (.eqD true [(0, 1), (1, 0), (2, 0)] (.tmp 49) (.tmp 54))), .g (.keep [2, 3, 5, 55])]) (.cond (.tmp 55) (.seq (.reg 0 [zb 0 4 false, .g (.keep [4])]) (.ret)) (.skip)))) (.reg 0 [zm 0 43 5, zd 1 44 .add 43 1, zm 2 5 44, .g (.keep [2, 3, 5])]))
def hallmarkref4_Same.ir : C := .seq (.reg 2 [.o 0 (.box (some 2) 0 4 (.tmp 0)), .o 1 (.box (some 3) 1 4 (.tmp 1)), zb 2 4 false, .g (.keep [2, 3])]) (.seq (.seq (.reg 0 [zf 0 7 2 0, zl 1 8 1 7, zn 2 9 8, zf 3 10 3 0, zl 4 11 1 10, zn 5 12 11, za 6 13 .neq 9 12, zm 7 14 13, yf 8 14 false 15 2 1, yl 9 14 false 16 1 15, yn 10 14 false 17 16, yf 11 14 false 18 3 1, yl 12 14 false 19 1 18, yn 13 14 false 20 19, ya 14 14 false 21 .neq 17 20, zp 15 22 14 true 21, zm 16 23 22, yf 17 23 false 24 2 2, yl 18 23 false 25 1 24, yf 19 23 false 26 3 2, yl 20 23 false 27 1 26, yy 21 23 false 28 true 25 27, zp 22 29 23 true 28, zm 23 30 29, yf 24 30 false 31 2 3, yl 25 30 false 32 1 31, yf 26 30 false 33 3 3, yl 27 30 false 34 1 33, .gd 28 30 false (some 35) (.call (some 35) hallmarkref4_sameTerms.id [(.tmp 32), (.tmp 34)]), yq 29 30 false 36 35, zp 30 37 30 true 36, .g (.keep [2, 3, 37])]) (.cond (.tmp 37) (.seq (.reg 0 [zb 0 4 false, .g (.keep [4])]) (.ret)) (.skip))) (.seq (.seq (.reg 0 [zk 0 5 0, .g (.keep [2, 3, 5])]) (.block 0 (.loop hallmarkref4_Same.b0))) (.seq (.seq (.reg 0 [zk 0 6 0, .g (.keep [2, 3, 6])]) (.block 2 (.loop hallmarkref4_Same.b1))) (.seq (.reg 0 [zb 0 4 true, .g (.keep [4])]) (.ret)))))
def hallmarkref4_Same.rs : List Rs := [.sl 4]
theorem hallmarkref4_Same.ok : isFn Tryz.prog hallmarkref4_Same.id 75 hallmarkref4_Same.ann hallmarkref4_Same.ir hallmarkref4_Same.rs := ⟨Tryz.f11, _, Tryz.func11, rfl, rfl, by kernel_rfl, by kernel_rfl⟩
-- (*hallmark/hallmarkroom.Room).Hold
def hallmarkroom_Room_Hold.ann : List (Nat × RA) := [(0, rk [0]), (1, rk [0, 3]), (2, rp [0, 3] [(3, [1000000])]), (3, rp [0, 3] [(3, [1000000])]), (4, rp [0, 3] [(3, [1000000])]), (5, rp [0, 3] [(3, [1000000])]), (6, rp [0, 3] [(3, [1000000])]), (7, rp [0, 3] [(3, [1000000])]), (8, rp [0, 3] [(3, [1000000])]), (9, rp [0, 3] [(3, [1000000])]), (10, rp [0, 3] [(3, [1000000])]), (11, rp [0, 3] [(3, [1000000])]), (12, rp [0, 3] [(3, [1000000])]), (13, rp [0, 3] [(3, [1000000])]), (14, rp [0, 3] [(3, [1000000])]), (15, rp [3] [(3, [1000000])]), (16, rk [2])]
def hallmarkroom_Room_Hold.ir : C := .seq (.reg 0 [zb 0 2 false, .g (.keep [0])]) (.seq (.reg 0 [zb 0 3 true, .g (.keep [0, 3])]) (.seq (.reg 0 [zm 0 4 3, zm 1 5 4, ym 2 5 true 6 0, .gd 3 5 true (some 7) (.callm (some 7) (.func hallmarkroom_Room_holdInts.id) [(.tmp 6)]), zr 4 8 5 7 false, zm 5 3 8, .g (.keep [0, 3])]) (.seq (.reg 0 [zm 0 9 3, zm 1 10 9, ym 2 10 true 11 0, .gd 3 10 true (some 12) (.callm (some 12) (.func hallmarkroom_Room_holdTexts.id) [(.tmp 11)]), zr 4 13 10 12 false, zm 5 3 13, .g (.keep [0, 3])]) (.seq (.reg 0 [zm 0 14 3, zm 1 15 14, ym 2 15 true 16 0, .gd 3 15 true (some 17) (.callm (some 17) (.func hallmarkroom_Room_holdTerms.id) [(.tmp 16)]), zr 4 18 15 17 false, zm 5 3 18, .g (.keep [0, 3])]) (.seq (.reg 0 [zm 0 19 3, zm 1 20 19, ym 2 20 true 21 0, .gd 3 20 true (some 22) (.callm (some 22) (.func hallmarkroom_Room_holdVars.id) [(.tmp 21)]), zr 4 23 20 22 false, zm 5 3 23, .g (.keep [0, 3])]) (.seq (.reg 0 [zm 0 24 3, zm 1 25 24, ym 2 25 true 26 0, .gd 3 25 true (some 27) (.callm (some 27) (.func hallmarkroom_Room_holdPieces.id) [(.tmp 26)]), zr 4 28 25 27 false, zm 5 3 28, .g (.keep [0, 3])]) (.seq (.reg 0 [zm 0 29 3, zm 1 30 29, ym 2 30 true 31 0, .gd 3 30 true (some 32) (.callm (some 32) (.func hallmarkroom_Room_holdOps.id) [(.tmp 31)]), zr 4 33 30 32 false, zm 5 3 33, .g (.keep [0, 3])]) (.seq (.reg 0 [zm 0 34 3, zm 1 35 34, ym 2 35 true 36 0, .gd 3 35 true (some 37) (.callm (some 37) (.func hallmarkroom_Room_holdCuts.id) [(.tmp 36)]), zr 4 38 35 37 false, zm 5 3 38, .g (.keep [0, 3])]) (.seq (.reg 0 [zm 0 39 3, zm 1 40 39, ym 2 40 true 41 0, .gd 3 40 true (some 42) (.callm (some 42) (.func hallmarkroom_Room_holdMeans.id) [(.tmp 41)]), zr 4 43 40 42 false, zm 5 3 43, .g (.keep [0, 3])]) (.seq (.reg 0 [zm 0 44 3, zm 1 45 44, ym 2 45 true 46 0, .gd 3 45 true (some 47) (.callm (some 47) (.func hallmarkroom_Room_holdLists.id) [(.tmp 46)]), zr 4 48 45 47 false, zm 5 3 48, .g (.keep [0, 3])]) (.seq (.reg 0 [zm 0 49 3, zm 1 50 49, ym 2 50 true 51 0, .gd 3 50 true (some 52) (.callm (some 52) (.func hallmarkroom_Room_holdCons.id) [(.tmp 51)]), zr 4 53 50 52 false, zm 5 3 53, .g (.keep [0, 3])]) (.seq (.reg 0 [zm 0 54 3, zm 1 55 54, ym 2 55 true 56 0, .gd 3 55 true (some 57) (.callm (some 57) (.func hallmarkroom_Room_holdRows.id) [(.tmp 56)]), zr 4 58 55 57 false, zm 5 3 58, .g (.keep [0, 3])]) (.seq (.reg 0 [zm 0 59 3, zm 1 60 59, ym 2 60 true 61 0, .gd 3 60 true (some 62) (.callm (some 62) (.func hallmarkroom_Room_holdSteps.id) [(.tmp 61)]), zr 4 63 60 62 false, zm 5 3 63, .g (.keep [0, 3])]) (.seq (.reg 0 [zm 0 64 3, zm 1 65 64, ym 2 65 true 66 0, .gd 3 65 true (some 67) (.callm (some 67) (.func hallmarkroom_Room_holdCauses.id) [(.tmp 66)]), zr 4 68 65 67 false, zm 5 3 68, .g (.keep [0, 3])]) (.seq (.reg 0 [zm 0 69 3, zm 1 70 69, ym 2 70 true 71 0, .gd 3 70 true (some 72) (.callm (some 72) (.func hallmarkroom_Room_holdActs.id) [(.tmp 71)]), zr 4 73 70 72 false, zm 5 3 73, .g (.keep [3])]) (.seq (.reg 0 [zm 0 74 3, zm 1 2 74, .g (.keep [2])]) (.ret)))))))))))))))))
def hallmarkroom_Room_Hold.rs : List Rs := [.sl 2]
theorem hallmarkroom_Room_Hold.ok : isFn Tryz.prog hallmarkroom_Room_Hold.id 75 hallmarkroom_Room_Hold.ann hallmarkroom_Room_Hold.ir hallmarkroom_Room_Hold.rs := ⟨Tryz.f12, _, Tryz.func12, rfl, rfl, by kernel_rfl, by kernel_rfl⟩
-- (*hallmark/hallmarkroom.Room).Model
-- hallmark/hallmarkref4.Check
-- hallmark/hallmarkref4.Product
-- hallmark/model.Check
-- hallmark/model.Product
-- hallmark/model.Floor
-- hallmark/hallmarkref4.Floor
-- hallmark/model.Ceil
-- hallmark/hallmarkref4.Ceil
-- hallmark/model.Solution
-- hallmark/hallmarkref4.Solution
-- hallmark/model.Worth
-- hallmark/hallmarkref4.Worth
-- hallmark/hallmarkroom.Many
def hallmarkroom_Many.ann : List (Nat × RA) := [(0, rk [0]), (1, rk [2])]
def hallmarkroom_Many.ir : C := .seq (.reg 0 [.o 0 (.lt (some 2) (.mov (.const (.pointer none)))), .g (.keep [0])]) (.seq (.reg 1 [zm 0 3 0, .o 1 (.lt (some 4) (.build [.a (.int .i64 0)] [(0, 1, (.tmp 3))])), .o 2 (.box (some 5) 0 1 (.tmp 4)), zm 3 2 5, .g (.keep [2])]) (.ret))
def hallmarkroom_Many.rs : List Rs := [.sl 2]
theorem hallmarkroom_Many.ok : isFn Tryz.prog hallmarkroom_Many.id 6 hallmarkroom_Many.ann hallmarkroom_Many.ir hallmarkroom_Many.rs := ⟨Tryz.f26, _, Tryz.func26, rfl, rfl, by kernel_rfl, by kernel_rfl⟩
-- (*hallmark/hallmarkroom.Count).Model
def hallmarkroom_Count_Model.ann : List (Nat × RA) := [(0, rk [0, 3]), (1, rk [0, 3, 4]), (2, rp [0, 3, 4, 14] [(7, [1000000])]), (3, rk [0, 3, 4]), (4, rp [0, 3, 4] [(7, [1000000])]), (5, rk [0, 3, 5]), (6, rp [0, 3, 5, 33] [(7, [1000000])]), (7, rk [0, 3, 5]), (8, rp [0, 3, 5] [(6, [1000000])]), (9, rp [] [(4, [1000000])])]
def hallmarkroom_Count_Model.b1 : C := .seq (.seq (.reg 0 [zm 0 25 5, zf 1 26 3 1, zl 2 27 1 26, zn 3 28 27, za 4 29 .lss 25 28, zm 5 30 29, ym 6 30 true 31 0, .gd 7 30 true (some 32) (.callm (some 32) (.func hallmarkroom_Count_Ok.id) [(.tmp 31)]), zr 8 33 30 32 false, .g (.keep [0, 3, 5, 33])]) (.cond (.tmp 33) (.skip) (.exit 2))) (.seq (.block 3 (.reg 0 [zm 0 36 0, zf 1 37 3 1, zl 2 38 1 37, zm 3 39 5, zx 4 40 10 38 39, zL 5 41 10 40, .o 6 (.callm (some 42) (.func hallmarkroom_Count_Con.id) [(.tmp 36), (.tmp 41)]), .g (.keep [0, 3, 5])])) (.reg 0 [zm 0 34 5, zd 1 35 .add 34 1, zm 2 5 35, .g (.keep [0, 3, 5])]))
def hallmarkroom_Count_Model.b0 : C := .seq (.seq (.reg 0 [zm 0 6 4, zf 1 7 3 0, zl 2 8 1 7, zn 3 9 8, za 4 10 .lss 6 9, zm 5 11 10, ym 6 11 true 12 0, .gd 7 11 true (some 13) (.callm (some 13) (.func hallmarkroom_Count_Ok.id) [(.tmp 12)]), zr 8 14 11 13 false, .g (.keep [0, 3, 4, 14])]) (.cond (.tmp 14) (.skip) (.exit 0))) (.seq (.block 1 (.reg 0 [zm 0 17 0, zf 1 18 3 0, zl 2 19 1 18, zm 3 20 4, zx 4 21 3 19 20, zf 5 22 21 0, zl 6 23 1 22, .o 7 (.callm (some 24) (.func hallmarkroom_Count_Text.id) [(.tmp 17), (.tmp 23)]), .g (.keep [0, 3, 4])])) (.reg 0 [zm 0 15 4, zd 1 16 .add 15 1, zm 2 4 16, .g (.keep [0, 3, 4])]))
def hallmarkroom_Count_Model.ir : C := .seq (.reg 1 [.o 0 (.box (some 3) 0 4 (.tmp 1)), .g (.keep [0, 3])]) (.seq (.seq (.reg 0 [zk 0 4 0, .g (.keep [0, 3, 4])]) (.block 0 (.loop hallmarkroom_Count_Model.b0))) (.seq (.seq (.reg 0 [zk 0 5 0, .g (.keep [0, 3, 5])]) (.block 2 (.loop hallmarkroom_Count_Model.b1))) (.reg 0 [zm 0 43 0, zf 1 44 3 3, zl 2 45 1 44, zn 3 46 45, .o 4 (.callm (some 47) (.func hallmarkroom_Count_Add.id) [(.tmp 43), (.tmp 46)]), .g (.keep [])])))
def hallmarkroom_Count_Model.rs : List Rs := []
theorem hallmarkroom_Count_Model.ok : isFn Tryz.prog hallmarkroom_Count_Model.id 48 hallmarkroom_Count_Model.ann hallmarkroom_Count_Model.ir hallmarkroom_Count_Model.rs := ⟨Tryz.f27, _, Tryz.func27, rfl, rfl, by kernel_rfl, by kernel_rfl⟩
-- (*hallmark/hallmarkroom.Count).Add
def hallmarkroom_Count_Add.ann : List (Nat × RA) := [(0, rk [0, 1]), (1, rk [0, 1, 9]), (2, rk [0]), (3, rk [4])]
def hallmarkroom_Count_Add.ir : C := .seq (.reg 0 [zb 0 4 false, .g (.keep [0, 1])]) (.seq (.seq (.reg 0 [zm 0 5 0, zc 1 6 5, zf 2 7 6 0, zl 3 8 1 7, zd 4 9 .geq 8 0, .g (.keep [0, 1, 9])]) (.cond (.tmp 9) (.reg 0 [zm 0 10 0, zm 1 11 0, zc 2 12 11, zf 3 13 12 0, zl 4 14 1 13, zm 5 15 1, za 6 16 .sub 14 15, zc 7 17 10, zf 8 18 17 0, .o 9 (.store [] 1 (.tmp 18) (.tmp 16)), .g (.keep [0])]) (.skip))) (.seq (.reg 0 [zm 0 19 0, zc 1 20 19, zf 2 21 20 0, zl 3 22 1 21, zd 4 23 .geq 22 0, zm 5 4 23, .g (.keep [4])]) (.ret)))
def hallmarkroom_Count_Add.rs : List Rs := [.sl 4]
theorem hallmarkroom_Count_Add.ok : isFn Tryz.prog hallmarkroom_Count_Add.id 24 hallmarkroom_Count_Add.ann hallmarkroom_Count_Add.ir hallmarkroom_Count_Add.rs := ⟨Tryz.f28, _, Tryz.func28, rfl, rfl, by kernel_rfl, by kernel_rfl⟩
-- (*hallmark/hallmarkroom.Count).Ok
def hallmarkroom_Count_Ok.ann : List (Nat × RA) := [(0, rk [0]), (1, rk [2])]
def hallmarkroom_Count_Ok.ir : C := .seq (.reg 0 [zb 0 2 false, .g (.keep [0])]) (.seq (.reg 0 [zm 0 3 0, zc 1 4 3, zf 2 5 4 0, zl 3 6 1 5, zd 4 7 .geq 6 0, zm 5 2 7, .g (.keep [2])]) (.ret))
def hallmarkroom_Count_Ok.rs : List Rs := [.sl 2]
theorem hallmarkroom_Count_Ok.ok : isFn Tryz.prog hallmarkroom_Count_Ok.id 8 hallmarkroom_Count_Ok.ann hallmarkroom_Count_Ok.ir hallmarkroom_Count_Ok.rs := ⟨Tryz.f29, _, Tryz.func29, rfl, rfl, by kernel_rfl, by kernel_rfl⟩
-- (*hallmark/hallmarkroom.Room).Terms
def hallmarkroom_Room_Terms.ann : List (Nat × RA) := [(0, rk [0, 1]), (1, rp [4] [(2, [1000000])])]
def hallmarkroom_Room_Terms.ir : C := .seq (.reg 0 [.o 0 (.lt (some 4) (.mov (.const (.slice none 0 0)))), .g (.keep [0, 1])]) (.seq (.reg 0 [zm 0 5 0, zm 1 6 1, .o 2 (.callm (some 7) (.func hallmarkroom_Room_layTerms.id) [(.tmp 5), (.tmp 6), (.const (.int .i64 40))]), zm 3 4 7, .g (.keep [4])]) (.ret))
def hallmarkroom_Room_Terms.rs : List Rs := [.sl 4]
theorem hallmarkroom_Room_Terms.ok : isFn Tryz.prog hallmarkroom_Room_Terms.id 8 hallmarkroom_Room_Terms.ann hallmarkroom_Room_Terms.ir hallmarkroom_Room_Terms.rs := ⟨Tryz.f30, _, Tryz.func30, rfl, rfl, by kernel_rfl, by kernel_rfl⟩
-- (*hallmark/hallmarkroom.Room).Lists
def hallmarkroom_Room_Lists.ann : List (Nat × RA) := [(0, rk [0, 1]), (1, rp [4] [(2, [1000000])])]
def hallmarkroom_Room_Lists.ir : C := .seq (.reg 0 [.o 0 (.lt (some 4) (.mov (.const (.slice none 0 0)))), .g (.keep [0, 1])]) (.seq (.reg 0 [zm 0 5 0, zm 1 6 1, .o 2 (.callm (some 7) (.func hallmarkroom_Room_layLists.id) [(.tmp 5), (.tmp 6), (.const (.int .i64 40))]), zm 3 4 7, .g (.keep [4])]) (.ret))
def hallmarkroom_Room_Lists.rs : List Rs := [.sl 4]
theorem hallmarkroom_Room_Lists.ok : isFn Tryz.prog hallmarkroom_Room_Lists.id 8 hallmarkroom_Room_Lists.ann hallmarkroom_Room_Lists.ir hallmarkroom_Room_Lists.rs := ⟨Tryz.f31, _, Tryz.func31, rfl, rfl, by kernel_rfl, by kernel_rfl⟩
-- (*hallmark/hallmarkroom.Room).layInts
def hallmarkroom_Room_layInts.ann : List (Nat × RA) := [(0, rk [0, 1, 2]), (1, rp [0, 1, 2, 7] [(0, [1000004])]), (2, { gs := [(0, [.wk])], keep := some [0, 1, 2, 7] }), (3, rk [0, 1, 2, 7, 8]), (4, rk [0, 1, 2, 7, 8, 15]), (5, rk [0, 1, 2, 7, 8]), (6, rp [0, 1, 2, 7, 8] [(3, [1000004])]), (7, { gs := [(0, [.frz 7])], keep := some [0, 1, 7], aps := [(6, [1000004])] }), (8, rp [1, 7] [(7, [1000004])]), (9, rk [6])]
def hallmarkroom_Room_layInts.b0 : C := .seq (.seq (.reg 0 [zm 0 13 8, zm 1 14 2, za 2 15 .lss 13 14, .g (.keep [0, 1, 2, 7, 8, 15])]) (.cond (.tmp 15) (.skip) (.exit 0))) (.seq (.block 1 (.reg 2 [zm 0 18 7, zm 1 19 8, .o 2 (.call (some 20) hallmarkroom_lot.id [(.tmp 19)]), .o 3 (.bsv (some 21) 1 1 [.a (.int .i64 0)] [(0, (.tmp 20))]), .o 4 (.app [] (some 22) 1 1 8 (.tmp 18) (.tmp 21)), zm 5 7 22, .g (.keep [0, 1, 2, 7, 8])])) (.reg 0 [zm 0 16 8, zd 1 17 .add 16 1, zm 2 8 17, .g (.keep [0, 1, 2, 7, 8])]))
def hallmarkroom_Room_layInts.ir : C := .seq (.reg 0 [.o 0 (.lt (some 6) (.mov (.const (.slice none 0 0)))), .g (.keep [0, 1, 2])]) (.seq (.reg 1 [.o 0 (.bsv (some 9) 1 0 [.a (.int .i64 0)] []), zm 1 7 9, .g (.keep [0, 1, 2, 7])]) (.seq (.reg 1 [.g (.wk), zm 0 10 7, zm 1 11 1, .o 2 (.app [] (some 12) 0 1 8 (.tmp 10) (.tmp 11)), zm 3 7 12, .g (.keep [0, 1, 2, 7])]) (.seq (.seq (.reg 0 [zk 0 8 0, .g (.keep [0, 1, 2, 7, 8])]) (.block 0 (.loop hallmarkroom_Room_layInts.b0))) (.seq (.reg 2 [.g (.frz 7), zm 0 23 0, zm 1 24 0, zc 2 25 24, zf 3 26 25 0, zl 4 27 1 26, zm 5 28 7, .o 6 (.bsv (some 29) 1 1 [.a (.slice none 0 0)] [(0, (.tmp 28))]), .o 7 (.app [] (some 30) 1 1 24 (.tmp 27) (.tmp 29)), zc 8 31 23, zf 9 32 31 0, .o 10 (.store [] 1 (.tmp 32) (.tmp 30)), .g (.keep [0, 1, 7])]) (.seq (.reg 2 [zm 0 33 0, zm 1 34 0, zc 2 35 34, zf 3 36 35 1, zl 4 37 1 36, zm 5 38 1, zn 6 39 38, .o 7 (.bsv (some 40) 1 1 [.a (.int .i64 0)] [(0, (.tmp 39))]), .o 8 (.app [] (some 41) 1 1 8 (.tmp 37) (.tmp 40)), zc 9 42 33, zf 10 43 42 1, .o 11 (.store [] 1 (.tmp 43) (.tmp 41)), .g (.keep [1, 7])]) (.seq (.reg 0 [zm 0 44 7, zm 1 45 1, zn 2 46 45, zm 3 47 7, zn 4 48 47, .o 5 (.lt (some 49) (.slM 1 (.tmp 44) (.tmp 46) (.tmp 48))), zm 6 6 49, .g (.keep [6])]) (.ret)))))))
def hallmarkroom_Room_layInts.rs : List Rs := [.sl 6]
theorem hallmarkroom_Room_layInts.ok : isFn Tryz.prog hallmarkroom_Room_layInts.id 50 hallmarkroom_Room_layInts.ann hallmarkroom_Room_layInts.ir hallmarkroom_Room_layInts.rs := ⟨Tryz.f32, _, Tryz.func32, rfl, rfl, by kernel_rfl, by kernel_rfl⟩
-- hallmark/hallmarkref4.Con
def hallmarkref4_Con.ann : List (Nat × RA) := [(0, rk [1, 2]), (1, rk [1, 2, 37]), (2, rk [4]), (3, rk [1, 2, 39]), (4, rk [4]), (5, rk [1, 2, 5]), (6, rk [1, 2, 86]), (7, rk [4]), (8, rk [1, 2, 6]), (9, rk [2, 6, 98]), (10, rk [4]), (11, rk [2, 6, 100]), (12, rk [4]), (13, rk [2, 111]), (14, rk [4]), (15, rk [2, 7]), (16, rk [2, 7, 116]), (17, rk [2, 7]), (18, rk [2, 7, 8]), (19, rk [2, 7, 8, 126]), (20, rk [2, 7, 8]), (21, rk [2, 7, 8, 138]), (22, rk [4]), (23, rk [2, 9]), (24, rk [2, 9, 143]), (25, rk [2, 9]), (26, rk [2, 9, 152]), (27, rk [4]), (28, rk [4])]
def hallmarkref4_Con.b2 : C := .seq (.seq (.reg 0 [zm 0 139 9, zf 1 140 2 8, zl 2 141 1 140, zn 3 142 141, za 4 143 .lss 139 142, .g (.keep [2, 9, 143])]) (.cond (.tmp 143) (.skip) (.exit 4))) (.seq (.block 5 (.seq (.reg 0 [zf 0 146 2 8, zl 1 147 1 146, zm 2 148 9, zx 3 149 1 147 148, zl 4 150 1 149, .o 5 (.call (some 151) hallmarkref4_Number.id [(.tmp 150)]), zq 6 152 151, .g (.keep [2, 9, 152])]) (.cond (.tmp 152) (.seq (.reg 0 [zk 0 4 46, .g (.keep [4])]) (.ret)) (.skip)))) (.reg 0 [zm 0 144 9, zd 1 145 .add 144 1, zm 2 9 145, .g (.keep [2, 9])]))
def hallmarkref4_Con.b1 : C := .seq (.seq (.reg 0 [zm 0 119 8, zf 1 120 2 9, zl 2 121 1 120, zm 3 122 7, zx 4 123 1 121 122, zl 5 124 1 123, zn 6 125 124, za 7 126 .lss 119 125, .g (.keep [2, 7, 8, 126])]) (.cond (.tmp 126) (.skip) (.exit 2))) (.seq (.block 3 (.seq (.reg 0 [zf 0 129 2 9, zl 1 130 1 129, zm 2 131 7, zx 3 132 1 130 131, zl 4 133 1 132, zm 5 134 8, zx 6 135 1 133 134, zl 7 136 1 135, .o 8 (.call (some 137) hallmarkref4_Number.id [(.tmp 136)]), zq 9 138 137, .g (.keep [2, 7, 8, 138])]) (.cond (.tmp 138) (.seq (.reg 0 [zk 0 4 46, .g (.keep [4])]) (.ret)) (.skip)))) (.reg 0 [zm 0 127 8, zd 1 128 .add 127 1, zm 2 8 128, .g (.keep [2, 7, 8])]))
def hallmarkref4_Con.b0 : C := .seq (.seq (.reg 0 [zm 0 112 7, zf 1 113 2 9, zl 2 114 1 113, zn 3 115 114, za 4 116 .lss 112 115, .g (.keep [2, 7, 116])]) (.cond (.tmp 116) (.skip) (.exit 0))) (.seq (.block 1 (.seq (.reg 0 [zk 0 8 0, .g (.keep [2, 7, 8])]) (.block 2 (.loop hallmarkref4_Con.b1)))) (.reg 0 [zm 0 117 7, zd 1 118 .add 117 1, zm 2 7 118, .g (.keep [2, 7])]))
def hallmarkref4_Con.ir : C := .seq (.reg 1 [.o 0 (.box (some 2) 0 10 (.tmp 0)), zk 1 4 0, .g (.keep [1, 2])]) (.seq (.seq (.reg 0 [zf 0 10 2 0, zl 1 11 1 10, zd 2 12 .lss 11 1, zm 3 13 12, yf 4 13 false 14 2 0, yl 5 13 false 15 1 14, yd 6 13 false 16 .gtr 15 9, zp 7 17 13 true 16, zm 8 18 17, yf 9 18 false 19 2 0, yl 10 18 false 20 1 19, yd 11 18 false 21 .eql 20 1, ym 12 18 false 22 21, yf 13 22 false 23 2 0, yl 14 22 false 24 1 23, yd 15 22 false 25 .eql 24 9, yp 16 18 false 26 22 true 25, ym 17 18 false 27 26, yf 18 27 true 28 2 1, yl 19 27 true 29 1 28, yd 20 27 true 30 .lss 29 1, ym 21 27 true 31 30, yf 22 31 false 32 2 1, yl 23 31 false 33 1 32, yd 24 31 false 34 .gtr 33 3, yp 25 27 true 35 31 true 34, yr 26 18 false 36 27 35 false, zp 27 37 18 true 36, .g (.keep [1, 2, 37])]) (.cond (.tmp 37) (.seq (.reg 0 [zk 0 4 43, .g (.keep [4])]) (.ret)) (.skip))) (.seq (.seq (.reg 0 [zL 0 38 10 2, .o 1 (.call (some 39) hallmarkref4_foreign.id [(.tmp 38)]), .g (.keep [1, 2, 39])]) (.cond (.tmp 39) (.seq (.reg 0 [zk 0 4 48, .g (.keep [4])]) (.ret)) (.skip))) (.seq (.reg 0 [zf 0 40 2 0, zl 1 41 1 40, zd 2 42 .eql 41 1, zm 3 43 42, yf 4 43 false 44 2 0, yl 5 43 false 45 1 44, yd 6 43 false 46 .eql 45 7, zp 7 47 43 true 46, zm 8 5 47, .g (.keep [1, 2, 5])]) (.seq (.seq (.reg 0 [zm 0 48 5, zm 1 49 48, yf 2 49 true 50 2 2, yl 3 49 true 51 1 50, yn 4 49 true 52 51, .gd 5 49 true (some 53) (.call (some 53) hallmarkref4_many.id [(.tmp 52)]), zr 6 54 49 53 false, zm 7 55 54, yf 8 55 false 56 2 0, yl 9 55 false 57 1 56, .gd 10 55 false (some 58) (.call (some 58) hallmarkref4_lists.id [(.tmp 57)]), ym 11 55 false 59 58, yf 12 59 true 60 2 7, yl 13 59 true 61 1 60, yn 14 59 true 62 61, .gd 15 59 true (some 63) (.call (some 63) hallmarkref4_many.id [(.tmp 62)]), yr 16 55 false 64 59 63 false, zp 17 65 55 true 64, zm 18 66 65, yf 19 66 false 67 2 0, yl 20 66 false 68 1 67, yd 21 66 false 69 .eql 68 4, ym 22 66 false 70 69, yf 23 70 true 71 2 8, yl 24 70 true 72 1 71, yn 25 70 true 73 72, .gd 26 70 true (some 74) (.call (some 74) hallmarkref4_many.id [(.tmp 73)]), yr 27 66 false 75 70 74 false, zp 28 76 66 true 75, zm 29 77 76, yf 30 77 false 78 2 0, yl 31 77 false 79 1 78, yd 32 77 false 80 .eql 79 8, ym 33 77 false 81 80, yL 34 81 true 82 10 2, .gd 35 81 true (some 83) (.call (some 83) hallmarkref4_rows.id [(.tmp 82)]), yq 36 81 true 84 83, yr 37 77 false 85 81 84 false, zp 38 86 77 true 85, .g (.keep [1, 2, 86])]) (.cond (.tmp 86) (.seq (.reg 0 [zk 0 4 47, .g (.keep [4])]) (.ret)) (.skip))) (.seq (.reg 0 [zf 0 87 2 2, zl 1 88 1 87, zm 2 89 1, .o 3 (.call (some 90) hallmarkref4_terms.id [(.tmp 88), (.tmp 89)]), zm 4 6 90, .g (.keep [1, 2, 6])]) (.seq (.seq (.reg 0 [zL 0 91 10 2, zm 1 92 1, .o 2 (.call (some 93) hallmarkref4_places.id [(.tmp 91), (.tmp 92)]), zq 3 94 93, zm 4 95 94, ym 5 95 false 96 6, yd 6 95 false 97 .eql 96 44, zp 7 98 95 true 97, .g (.keep [2, 6, 98])]) (.cond (.tmp 98) (.seq (.reg 0 [zk 0 4 44, .g (.keep [4])]) (.ret)) (.skip))) (.seq (.seq (.reg 0 [zm 0 99 6, zd 1 100 .neq 99 0, .g (.keep [2, 6, 100])]) (.cond (.tmp 100) (.seq (.reg 0 [zm 0 101 6, zm 1 4 101, .g (.keep [4])]) (.ret)) (.skip))) (.seq (.seq (.reg 0 [zf 0 102 2 3, zl 1 103 1 102, .o 2 (.call (some 104) hallmarkref4_Number.id [(.tmp 103)]), zq 3 105 104, zm 4 106 105, yf 5 106 false 107 2 4, yl 6 106 false 108 1 107, .gd 7 106 false (some 109) (.call (some 109) hallmarkref4_Number.id [(.tmp 108)]), yq 8 106 false 110 109, zp 9 111 106 true 110, .g (.keep [2, 111])]) (.cond (.tmp 111) (.seq (.reg 0 [zk 0 4 46, .g (.keep [4])]) (.ret)) (.skip))) (.seq (.seq (.reg 0 [zk 0 7 0, .g (.keep [2, 7])]) (.block 0 (.loop hallmarkref4_Con.b0))) (.seq (.seq (.reg 0 [zk 0 9 0, .g (.keep [2, 9])]) (.block 4 (.loop hallmarkref4_Con.b2))) (.seq (.reg 0 [zk 0 4 0, .g (.keep [4])]) (.ret))))))))))))
def hallmarkref4_Con.rs : List Rs := [.sl 4]
theorem hallmarkref4_Con.ok : isFn Tryz.prog hallmarkref4_Con.id 153 hallmarkref4_Con.ann hallmarkref4_Con.ir hallmarkref4_Con.rs := ⟨Tryz.f33, _, Tryz.func33, rfl, rfl, by kernel_rfl, by kernel_rfl⟩
-- hallmark/hallmarkref4.numbers
def hallmarkref4_numbers.ann : List (Nat × RA) := [(0, rk [0]), (1, rk [0, 3]), (2, rk [0, 3, 7]), (3, rk [0, 3]), (4, rk [0, 3, 15]), (5, rk [2]), (6, rk [2])]
def hallmarkref4_numbers.b0 : C := .seq (.seq (.reg 0 [zm 0 4 3, zm 1 5 0, zn 2 6 5, za 3 7 .lss 4 6, .g (.keep [0, 3, 7])]) (.cond (.tmp 7) (.skip) (.exit 0))) (.seq (.block 1 (.seq (.reg 0 [zm 0 10 0, zm 1 11 3, zx 2 12 1 10 11, zl 3 13 1 12, .o 4 (.call (some 14) hallmarkref4_Number.id [(.tmp 13)]), zq 5 15 14, .g (.keep [0, 3, 15])]) (.cond (.tmp 15) (.seq (.reg 0 [zb 0 2 false, .g (.keep [2])]) (.ret)) (.skip)))) (.reg 0 [zm 0 8 3, zd 1 9 .add 8 1, zm 2 3 9, .g (.keep [0, 3])]))
def hallmarkref4_numbers.ir : C := .seq (.reg 0 [zb 0 2 false, .g (.keep [0])]) (.seq (.seq (.reg 0 [zk 0 3 0, .g (.keep [0, 3])]) (.block 0 (.loop hallmarkref4_numbers.b0))) (.seq (.reg 0 [zb 0 2 true, .g (.keep [2])]) (.ret)))
def hallmarkref4_numbers.rs : List Rs := [.sl 2]
theorem hallmarkref4_numbers.ok : isFn Tryz.prog hallmarkref4_numbers.id 16 hallmarkref4_numbers.ann hallmarkref4_numbers.ir hallmarkref4_numbers.rs := ⟨Tryz.f34, _, Tryz.func34, rfl, rfl, by kernel_rfl, by kernel_rfl⟩
-- hallmark/hallmarkref4.linear
def hallmarkref4_linear.ann : List (Nat × RA) := [(0, rk [0, 1, 2]), (1, rk [6])]
def hallmarkref4_linear.ir : C := .seq (.reg 0 [zb 0 6 false, .g (.keep [0, 1, 2])]) (.seq (.reg 0 [zm 0 7 0, zd 1 8 .eql 7 1, zm 2 9 8, ym 3 9 true 10 1, ym 4 9 true 11 2, ya 5 9 true 12 .leq 10 11, zr 6 13 9 12 false, zm 7 14 13, ym 8 14 false 15 0, yd 9 14 false 16 .eql 15 2, ym 10 14 false 17 16, ym 11 17 true 18 1, ym 12 17 true 19 2, ya 13 17 true 20 .eql 18 19, yr 14 14 false 21 17 20 false, zp 15 22 14 true 21, zm 16 23 22, ym 17 23 false 24 0, yd 18 23 false 25 .eql 24 3, ym 19 23 false 26 25, ym 20 26 true 27 1, ym 21 26 true 28 2, ya 22 26 true 29 .geq 27 28, yr 23 23 false 30 26 29 false, zp 24 31 23 true 30, zm 25 6 31, .g (.keep [6])]) (.ret))
def hallmarkref4_linear.rs : List Rs := [.sl 6]
theorem hallmarkref4_linear.ok : isFn Tryz.prog hallmarkref4_linear.id 32 hallmarkref4_linear.ann hallmarkref4_linear.ir hallmarkref4_linear.rs := ⟨Tryz.f35, _, Tryz.func35, rfl, rfl, by kernel_rfl, by kernel_rfl⟩
-- hallmark/hallmarkref4.sum
def hallmarkref4_sum.ann : List (Nat × RA) := [(0, rk [0, 1]), (1, rk [0, 1, 5]), (2, rk [0, 1, 5, 6]), (3, rk [0, 1, 5, 6, 10]), (4, rk [0, 1, 5, 6]), (5, ro [0, 1, 5, 6] [0, 1, 2, 3, 4, 5, 6, 7, 8, 9, 10, 11, 12, 13, 14, 15, 16]), (6, rk [4])]
def hallmarkref4_sum.b0 : C := .seq (.seq (.reg 0 [zm 0 7 6, zm 1 8 0, zn 2 9 8, za 3 10 .lss 7 9, .g (.keep [0, 1, 5, 6, 10])]) (.cond (.tmp 10) (.skip) (.exit 0))) (.seq (.block 1 (.reg 0 [zm 0 13 5, zm 1 14 0, zm 2 15 6, zx 3 16 2 14 15, zf 4 17 16 0, zl 5 18 1 17, zm 6 19 1, zm 7 20 0, zm 8 21 6, zx 9 22 2 20 21, zf 10 23 22 1, zl 11 24 1 23, zx 12 25 1 19 24, zl 13 26 1 25, za 14 27 .mul 18 26, za 15 28 .add 13 27, zm 16 5 28, .g (.keep [0, 1, 5, 6])])) (.reg 0 [zm 0 11 6, zd 1 12 .add 11 1, zm 2 6 12, .g (.keep [0, 1, 5, 6])]))
def hallmarkref4_sum.ir : C := .seq (.reg 0 [zk 0 4 0, .g (.keep [0, 1])]) (.seq (.reg 0 [zk 0 5 0, .g (.keep [0, 1, 5])]) (.seq (.seq (.reg 0 [zk 0 6 0, .g (.keep [0, 1, 5, 6])]) (.block 0 (.loop hallmarkref4_sum.b0))) (.seq (.reg 0 [zm 0 29 5, zm 1 4 29, .g (.keep [4])]) (.ret))))
def hallmarkref4_sum.rs : List Rs := [.sl 4]
theorem hallmarkref4_sum.ok : isFn Tryz.prog hallmarkref4_sum.id 30 hallmarkref4_sum.ann hallmarkref4_sum.ir hallmarkref4_sum.rs := ⟨Tryz.f36, _, Tryz.func36, rfl, rfl, by kernel_rfl, by kernel_rfl⟩
-- hallmark/hallmarkref4.different
def hallmarkref4_different.ann : List (Nat × RA) := [(0, rk [0, 1]), (1, rk [0, 1, 5]), (2, rk [0, 1, 5, 10]), (3, rk [0, 1, 5]), (4, rk [0, 1, 5, 6]), (5, rk [0, 1, 5, 6, 15]), (6, rk [0, 1, 5, 6]), (7, ro [0, 1, 5, 6, 32] [0, 1, 2, 3, 4, 5, 6, 7, 8, 9, 10, 11, 12, 13, 14]), (8, rk [4]), (9, rk [4])]
def hallmarkref4_different.b1 : C := .seq (.seq (.reg 0 [zm 0 13 6, zm 1 14 5, za 2 15 .lss 13 14, .g (.keep [0, 1, 5, 6, 15])]) (.cond (.tmp 15) (.skip) (.exit 2))) (.seq (.block 3 (.seq (.reg 0 [zm 0 18 1, zm 1 19 0, zm 2 20 6, zx 3 21 1 19 20, zl 4 22 1 21, zx 5 23 1 18 22, zl 6 24 1 23, zm 7 25 1, zm 8 26 0, zm 9 27 5, zx 10 28 1 26 27, zl 11 29 1 28, zx 12 30 1 25 29, zl 13 31 1 30, za 14 32 .eql 24 31, .g (.keep [0, 1, 5, 6, 32])]) (.cond (.tmp 32) (.seq (.reg 0 [zb 0 4 false, .g (.keep [4])]) (.ret)) (.skip)))) (.reg 0 [zm 0 16 6, zd 1 17 .add 16 1, zm 2 6 17, .g (.keep [0, 1, 5, 6])]))
def hallmarkref4_different.b0 : C := .seq (.seq (.reg 0 [zm 0 7 5, zm 1 8 0, zn 2 9 8, za 3 10 .lss 7 9, .g (.keep [0, 1, 5, 10])]) (.cond (.tmp 10) (.skip) (.exit 0))) (.seq (.block 1 (.seq (.reg 0 [zk 0 6 0, .g (.keep [0, 1, 5, 6])]) (.block 2 (.loop hallmarkref4_different.b1)))) (.reg 0 [zm 0 11 5, zd 1 12 .add 11 1, zm 2 5 12, .g (.keep [0, 1, 5])]))
def hallmarkref4_different.ir : C := .seq (.reg 0 [zb 0 4 false, .g (.keep [0, 1])]) (.seq (.seq (.reg 0 [zk 0 5 0, .g (.keep [0, 1, 5])]) (.block 0 (.loop hallmarkref4_different.b0))) (.seq (.reg 0 [zb 0 4 true, .g (.keep [4])]) (.ret)))
def hallmarkref4_different.rs : List Rs := [.sl 4]
theorem hallmarkref4_different.ok : isFn Tryz.prog hallmarkref4_different.id 33 hallmarkref4_different.ann hallmarkref4_different.ir hallmarkref4_different.rs := ⟨Tryz.f37, _, Tryz.func37, rfl, rfl, by kernel_rfl, by kernel_rfl⟩
-- hallmark/hallmarkref4.best
def hallmarkref4_best.ann : List (Nat × RA) := [(0, rk [0, 1, 2, 3]), (1, rk [0, 1, 2, 3, 9]), (2, rk [0, 1, 2, 3, 9, 10]), (3, rk [0, 1, 2, 3, 9, 10, 14]), (4, rk [0, 1, 2, 3, 9, 10]), (5, rk [0, 1, 2, 3, 9, 10, 29]), (6, rk [8]), (7, rk [0, 1, 2, 3, 9, 10]), (8, rk [8])]
def hallmarkref4_best.b0 : C := .seq (.seq (.reg 0 [zm 0 11 10, zm 1 12 1, zn 2 13 12, za 3 14 .lss 11 13, .g (.keep [0, 1, 2, 3, 9, 10, 14])]) (.cond (.tmp 14) (.skip) (.exit 0))) (.seq (.block 1 (.seq (.seq (.reg 0 [zm 0 17 3, zm 1 18 2, zm 2 19 1, zm 3 20 10, zx 4 21 1 19 20, zl 5 22 1 21, zx 6 23 1 18 22, zl 7 24 1 23, za 8 25 .mul 17 24, zm 9 26 3, zm 10 27 0, za 11 28 .mul 26 27, za 12 29 .gtr 25 28, .g (.keep [0, 1, 2, 3, 9, 10, 29])]) (.cond (.tmp 29) (.seq (.reg 0 [zb 0 8 false, .g (.keep [8])]) (.ret)) (.skip))) (.reg 0 [zm 0 30 9, zm 1 31 30, ym 2 31 false 32 2, ym 3 31 false 33 1, ym 4 31 false 34 10, yx 5 31 false 35 1 33 34, yl 6 31 false 36 1 35, yx 7 31 false 37 1 32 36, yl 8 31 false 38 1 37, ym 9 31 false 39 0, ya 10 31 false 40 .eql 38 39, zp 11 41 31 true 40, zm 12 9 41, .g (.keep [0, 1, 2, 3, 9, 10])]))) (.reg 0 [zm 0 15 10, zd 1 16 .add 15 1, zm 2 10 16, .g (.keep [0, 1, 2, 3, 9, 10])]))
def hallmarkref4_best.ir : C := .seq (.reg 0 [zb 0 8 false, .g (.keep [0, 1, 2, 3])]) (.seq (.reg 0 [zb 0 9 false, .g (.keep [0, 1, 2, 3, 9])]) (.seq (.seq (.reg 0 [zk 0 10 0, .g (.keep [0, 1, 2, 3, 9, 10])]) (.block 0 (.loop hallmarkref4_best.b0))) (.seq (.reg 0 [zm 0 42 9, zm 1 8 42, .g (.keep [8])]) (.ret))))
def hallmarkref4_best.rs : List Rs := [.sl 8]
theorem hallmarkref4_best.ok : isFn Tryz.prog hallmarkref4_best.id 43 hallmarkref4_best.ann hallmarkref4_best.ir hallmarkref4_best.rs := ⟨Tryz.f38, _, Tryz.func38, rfl, rfl, by kernel_rfl, by kernel_rfl⟩
-- hallmark/hallmarkref4.tabled
def hallmarkref4_tabled.ann : List (Nat × RA) := [(0, rk [1, 2]), (1, rk [1, 2, 5]), (2, rk [1, 2, 5, 10]), (3, rk [1, 2, 5]), (4, ro [1, 2, 5, 21] [0, 1, 2, 3, 4, 5, 6, 7, 8]), (5, rk [4]), (6, rk [4])]
def hallmarkref4_tabled.b0 : C := .seq (.seq (.reg 0 [zm 0 6 5, zf 1 7 2 9, zl 2 8 1 7, zn 3 9 8, za 4 10 .lss 6 9, .g (.keep [1, 2, 5, 10])]) (.cond (.tmp 10) (.skip) (.exit 0))) (.seq (.block 1 (.seq (.reg 0 [zf 0 13 2 7, zl 1 14 1 13, zf 2 15 2 9, zl 3 16 1 15, zm 4 17 5, zx 5 18 1 16 17, zl 6 19 1 18, zm 7 20 1, .o 8 (.call (some 21) hallmarkref4_Row.id [(.tmp 14), (.tmp 19), (.tmp 20)]), .g (.keep [1, 2, 5, 21])]) (.cond (.tmp 21) (.seq (.reg 0 [zb 0 4 true, .g (.keep [4])]) (.ret)) (.skip)))) (.reg 0 [zm 0 11 5, zd 1 12 .add 11 1, zm 2 5 12, .g (.keep [1, 2, 5])]))
def hallmarkref4_tabled.ir : C := .seq (.reg 1 [.o 0 (.box (some 2) 0 10 (.tmp 0)), zb 1 4 false, .g (.keep [1, 2])]) (.seq (.seq (.reg 0 [zk 0 5 0, .g (.keep [1, 2, 5])]) (.block 0 (.loop hallmarkref4_tabled.b0))) (.seq (.reg 0 [zb 0 4 false, .g (.keep [4])]) (.ret)))
def hallmarkref4_tabled.rs : List Rs := [.sl 4]
theorem hallmarkref4_tabled.ok : isFn Tryz.prog hallmarkref4_tabled.id 22 hallmarkref4_tabled.ann hallmarkref4_tabled.ir hallmarkref4_tabled.rs := ⟨Tryz.f39, _, Tryz.func39, rfl, rfl, by kernel_rfl, by kernel_rfl⟩
-- hallmark/hallmarkref4.counted
def hallmarkref4_counted.ann : List (Nat × RA) := [(0, rk [1, 2]), (1, rk [1, 2, 5]), (2, rk [1, 2, 5, 6]), (3, rk [1, 2, 5, 6, 11]), (4, rk [1, 2, 5, 6]), (5, ro [1, 2, 5, 6, 24] [0, 1, 2, 3, 4, 5, 6, 7, 8, 9, 10]), (6, rk [1, 2, 5, 6]), (7, rk [4])]
def hallmarkref4_counted.b0 : C := .seq (.seq (.reg 0 [zm 0 7 6, zf 1 8 2 7, zl 2 9 1 8, zn 3 10 9, za 4 11 .lss 7 10, .g (.keep [1, 2, 5, 6, 11])]) (.cond (.tmp 11) (.skip) (.exit 0))) (.seq (.block 1 (.seq (.reg 0 [zm 0 14 1, zf 1 15 2 7, zl 2 16 1 15, zm 3 17 6, zx 4 18 1 16 17, zl 5 19 1 18, zx 6 20 1 14 19, zl 7 21 1 20, zf 8 22 2 4, zl 9 23 1 22, za 10 24 .eql 21 23, .g (.keep [1, 2, 5, 6, 24])]) (.cond (.tmp 24) (.reg 0 [zm 0 25 5, zd 1 26 .add 25 1, zm 2 5 26, .g (.keep [1, 2, 5, 6])]) (.skip)))) (.reg 0 [zm 0 12 6, zd 1 13 .add 12 1, zm 2 6 13, .g (.keep [1, 2, 5, 6])]))
def hallmarkref4_counted.ir : C := .seq (.reg 1 [.o 0 (.box (some 2) 0 10 (.tmp 0)), zb 1 4 false, .g (.keep [1, 2])]) (.seq (.reg 0 [zk 0 5 0, .g (.keep [1, 2, 5])]) (.seq (.seq (.reg 0 [zk 0 6 0, .g (.keep [1, 2, 5, 6])]) (.block 0 (.loop hallmarkref4_counted.b0))) (.seq (.reg 0 [zf 0 27 2 1, zl 1 28 1 27, zm 2 29 5, zf 3 30 2 3, zl 4 31 1 30, .o 5 (.call (some 32) hallmarkref4_linear.id [(.tmp 28), (.tmp 29), (.tmp 31)]), zm 6 4 32, .g (.keep [4])]) (.ret))))
def hallmarkref4_counted.rs : List Rs := [.sl 4]
theorem hallmarkref4_counted.ok : isFn Tryz.prog hallmarkref4_counted.id 33 hallmarkref4_counted.ann hallmarkref4_counted.ir hallmarkref4_counted.rs := ⟨Tryz.f40, _, Tryz.func40, rfl, rfl, by kernel_rfl, by kernel_rfl⟩
-- hallmark/model.con
def model_con.ann : List (Nat × RA) := [(0, rk [2, 3]), (1, ro [2, 3, 5, 6] [1, 2, 0, 3, 4, 5, 6, 7, 8, 9]), (2, rk [2, 3, 5, 32]), (3, rk [4]), (4, rk [2, 3, 5, 7, 8]), (5, rk [2, 5, 7, 8, 9]), (6, rk [2, 5, 7, 8, 9, 41]), (7, rk [4]), (8, rk [2, 5, 7, 8, 9, 45]), (9, rk [2, 5, 7, 8, 9, 45]), (10, rk [2, 5, 7, 8, 9, 45]), (11, rk [2, 5, 7, 8, 9, 45]), (12, rk [4]), (13, rk [2, 5, 8, 9, 70]), (14, rp [2, 5, 8, 9, 70] [(6, [1000001])]), (15, rp [2, 8, 9, 70] [(6, [1000001])]), (16, rp [2, 8, 70] [(3, [1000001])]), (17, rk [4]), (18, rk [2, 92]), (19, rk [4]), (20, rk [2, 94]), (21, rk [2, 94]), (22, rk [2, 94]), (23, rp [94] [(2, [1000001])]), (24, rk [4]), (25, rk [4])]
def model_con.ir : C := .seq (.reg 2 [.o 0 (.box (some 2) 0 10 (.tmp 0)), .o 1 (.box (some 3) 1 1 (.tmp 1)), zk 2 4 0, .g (.keep [2, 3])]) (.seq (.reg 1 [zf 1 12 2 0, zl 2 13 1 12, .o 0 (.call (some 11) model_kinds.id []), .o 3 (.lt (some 14) (.lkp true .i64 (.agg [.a (.bool false), .a (.bool false), .a (.bool false), .a (.bool false), .a (.bool false), .a (.bool false), .a (.bool false), .a (.bool false), .a (.bool false), .a (.nilFunc)]) (.tmp 11) (.tmp 13))), zm 4 10 14, ze 5 15 10 0, ze 6 16 10 1, .o 7 (.alloc (some 5) 0 10 [.a (.bool false), .a (.bool false), .a (.bool false), .a (.bool false), .a (.bool false), .a (.bool false), .a (.bool false), .a (.bool false), .a (.bool false), .a (.nilFunc)]), .o 8 (.store [] 10 (.tmp 5) (.tmp 15)), zm 9 6 16, .g (.keep [2, 3, 5, 6])]) (.seq (.seq (.reg 0 [zm 0 17 6, zq 1 18 17, zm 2 19 18, yf 3 19 false 20 5 7, yl 4 19 false 21 1 20, ym 5 19 false 22 21, yf 6 22 true 23 2 1, yl 7 22 true 24 1 23, yd 8 22 true 25 .lss 24 1, ym 9 22 true 26 25, yf 10 26 false 27 2 1, yl 11 26 false 28 1 27, yd 12 26 false 29 .gtr 28 3, yp 13 22 true 30 26 true 29, yr 14 19 false 31 22 30 false, zp 15 32 19 true 31, .g (.keep [2, 3, 5, 32])]) (.cond (.tmp 32) (.seq (.reg 0 [zk 0 4 43, .g (.keep [4])]) (.ret)) (.skip))) (.seq (.reg 0 [zf 0 34 2 2, zl 1 35 1 34, zl 2 36 1 3, .o 3 (.call (some 37) model_terms.id [(.tmp 35), (.tmp 36)]), zm 4 33 37, ze 5 38 33 0, ze 6 39 33 1, zm 7 7 38, zm 8 8 39, .g (.keep [2, 3, 5, 7, 8])]) (.seq (.reg 0 [.o 0 (.lt (some 40) (.mkfn (.func model_con_1.id) [] [(.tmp 3)])), zm 1 9 40, .g (.keep [2, 5, 7, 8, 9])]) (.seq (.block 0 (.seq (.reg 0 [zL 0 42 10 2, zL 1 43 10 5, .o 2 (.call (some 44) model_field.id [(.tmp 42), (.tmp 43)]), zm 3 41 44, .g (.keep [2, 5, 7, 8, 9, 41])]) (.cond (.tmp 41) (.seq (.reg 0 [zk 0 4 48, .g (.keep [4])]) (.ret)) (.seq (.seq (.reg 0 [zf 0 46 5 0, zl 1 47 1 46, zf 2 48 2 2, zl 3 49 1 48, zn 4 50 49, .o 5 (.call (some 51) model_counts.id [(.tmp 47), (.tmp 50)]), zq 6 52 51, zm 7 45 52, .g (.keep [2, 5, 7, 8, 9, 45])]) (.cond (.tmp 45) (.skip) (.seq (.reg 0 [zf 0 53 5 1, zl 1 54 1 53, zf 2 55 2 7, zl 3 56 1 55, zn 4 57 56, .o 5 (.call (some 58) model_counts.id [(.tmp 54), (.tmp 57)]), zq 6 59 58, zm 7 45 59, .g (.keep [2, 5, 7, 8, 9, 45])]) (.cond (.tmp 45) (.skip) (.seq (.reg 0 [zf 0 60 5 2, zl 1 61 1 60, zf 2 62 2 8, zl 3 63 1 62, zn 4 64 63, .o 5 (.call (some 65) model_counts.id [(.tmp 61), (.tmp 64)]), zq 6 66 65, zm 7 45 66, .g (.keep [2, 5, 7, 8, 9, 45])]) (.cond (.tmp 45) (.skip) (.reg 0 [zL 0 67 10 2, zL 1 68 10 5, .o 2 (.call (some 69) model_wide.id [(.tmp 67), (.tmp 68)]), zm 3 45 69, .g (.keep [2, 5, 7, 8, 9, 45])]))))))) (.cond (.tmp 45) (.seq (.reg 0 [zk 0 4 47, .g (.keep [4])]) (.ret)) (.seq (.seq (.reg 0 [zm 0 71 7, zm 1 70 71, .g (.keep [2, 5, 8, 9, 70])]) (.cond (.tmp 70) (.skip) (.seq (.reg 0 [zf 0 72 5 4, zl 1 73 1 72, zm 2 74 73, ym 3 74 true 75 9, yf 4 74 true 76 2 5, yl 5 74 true 77 1 76, .gd 6 74 true (some 78) (.callb (some 78) (.tmp 75) [(.tmp 77)]), zr 7 79 74 78 false, zm 8 70 79, .g (.keep [2, 5, 8, 9, 70])]) (.cond (.tmp 70) (.skip) (.seq (.reg 0 [zf 0 80 5 5, zl 1 81 1 80, zm 2 82 81, ym 3 82 true 83 9, yf 4 82 true 84 2 6, yl 5 82 true 85 1 84, .gd 6 82 true (some 86) (.callb (some 86) (.tmp 83) [(.tmp 85)]), zr 7 87 82 86 false, zm 8 70 87, .g (.keep [2, 8, 9, 70])]) (.cond (.tmp 70) (.skip) (.reg 0 [zf 0 88 2 7, zl 1 89 1 88, zm 2 90 9, .o 3 (.callb (some 91) (.func slices_ContainsFunc_Lint_int.id) [(.tmp 89), (.tmp 90)]), zm 4 70 91, .g (.keep [2, 8, 70])]))))))) (.cond (.tmp 70) (.seq (.reg 0 [zk 0 4 44, .g (.keep [4])]) (.ret)) (.seq (.reg 0 [zm 0 93 8, zm 1 92 93, .g (.keep [2, 92])]) (.cond (.tmp 92) (.seq (.reg 0 [zk 0 4 45, .g (.keep [4])]) (.ret)) (.seq (.seq (.reg 0 [zf 0 95 2 3, zl 1 96 1 95, .o 2 (.call (some 97) model_within.id [(.tmp 96), (.const (.int .i64 1000000000))]), zq 3 98 97, zm 4 94 98, .g (.keep [2, 94])]) (.cond (.tmp 94) (.skip) (.seq (.reg 0 [zf 0 99 2 4, zl 1 100 1 99, .o 2 (.call (some 101) model_within.id [(.tmp 100), (.const (.int .i64 1000000000))]), zq 3 102 101, zm 4 94 102, .g (.keep [2, 94])]) (.cond (.tmp 94) (.skip) (.seq (.reg 0 [zf 0 103 2 8, zl 1 104 1 103, .o 2 (.call (some 105) model_great.id [(.tmp 104)]), zm 3 94 105, .g (.keep [2, 94])]) (.cond (.tmp 94) (.skip) (.reg 0 [zf 0 106 2 9, zl 1 107 1 106, .o 2 (.callb (some 108) (.func slices_ContainsFunc_LLint_Lint.id) [(.tmp 107), (.func model_great.id)]), zm 3 94 108, .g (.keep [94])]))))))) (.cond (.tmp 94) (.seq (.reg 0 [zk 0 4 46, .g (.keep [4])]) (.ret)) (.skip)))))))))))) (.seq (.reg 0 [zk 0 4 0, .g (.keep [4])]) (.ret)))))))
def model_con.rs : List Rs := [.sl 4]
theorem model_con.ok : isFn Tryz.prog model_con.id 109 model_con.ann model_con.ir model_con.rs := ⟨Tryz.f41, _, Tryz.func41, rfl, rfl, by kernel_rfl, by kernel_rfl⟩
-- hallmark/model.sized
def model_sized.ann : List (Nat × RA) := [(0, rk [0]), (1, rk [2])]
def model_sized.ir : C := .seq (.reg 0 [zb 0 2 false, .g (.keep [0])]) (.seq (.reg 0 [zm 0 3 0, .o 1 (.call (some 4) model_great.id [(.tmp 3)]), zq 2 5 4, zm 3 2 5, .g (.keep [2])]) (.ret))
def model_sized.rs : List Rs := [.sl 2]
theorem model_sized.ok : isFn Tryz.prog model_sized.id 6 model_sized.ann model_sized.ir model_sized.rs := ⟨Tryz.f42, _, Tryz.func42, rfl, rfl, by kernel_rfl, by kernel_rfl⟩
-- hallmark/model.kinds
def model_kinds.ann : List (Nat × RA) := [(0, rk []), (1, rk [0])]
def model_kinds.ir : C := .seq (.reg 0 [.o 0 (.lt (some 0) (.mov (.const (.map none)))), .g (.keep [])]) (.seq (.reg 1 [.o 0 (.mkm (some 1) 0), .o 1 (.lt (some 2) (.build [.a (.bool false), .a (.bool false), .a (.bool false), .a (.bool false), .a (.bool false), .a (.bool false), .a (.bool false), .a (.bool false), .a (.bool false), .a (.nilFunc)] [(0, 1, (.const (.bool true))), (6, 1, (.const (.bool true))), (7, 1, (.const (.bool true))), (9, 1, (.func model_lin.id))])), .o 2 (.mup [] .i64 (.tmp 1) (.const (.int .i64 1)) (.tmp 2)), .o 3 (.lt (some 3) (.build [.a (.bool false), .a (.bool false), .a (.bool false), .a (.bool false), .a (.bool false), .a (.bool false), .a (.bool false), .a (.bool false), .a (.bool false), .a (.nilFunc)] [(4, 1, (.const (.bool true))), (5, 1, (.const (.bool true))), (6, 1, (.const (.bool true))), (9, 1, (.func model_kinds_1.id))])), .o 4 (.mup [] .i64 (.tmp 1) (.const (.int .i64 2)) (.tmp 3)), .o 5 (.lt (some 4) (.build [.a (.bool false), .a (.bool false), .a (.bool false), .a (.bool false), .a (.bool false), .a (.bool false), .a (.bool false), .a (.bool false), .a (.bool false), .a (.nilFunc)] [(1, 1, (.const (.bool true))), (9, 1, (.func model_allDiff.id))])), .o 6 (.mup [] .i64 (.tmp 1) (.const (.int .i64 3)) (.tmp 4)), .o 7 (.lt (some 5) (.build [.a (.bool false), .a (.bool false), .a (.bool false), .a (.bool false), .a (.bool false), .a (.bool false), .a (.bool false), .a (.bool false), .a (.bool false), .a (.nilFunc)] [(4, 1, (.const (.bool true))), (5, 1, (.const (.bool true))), (2, 1, (.const (.bool true))), (9, 1, (.func model_element.id))])), .o 8 (.mup [] .i64 (.tmp 1) (.const (.int .i64 4)) (.tmp 5)), .o 9 (.lt (some 6) (.build [.a (.bool false), .a (.bool false), .a (.bool false), .a (.bool false), .a (.bool false), .a (.bool false), .a (.bool false), .a (.bool false), .a (.bool false), .a (.nilFunc)] [(5, 1, (.const (.bool true))), (1, 1, (.const (.bool true))), (9, 1, (.func model_kinds_2.id))])), .o 10 (.mup [] .i64 (.tmp 1) (.const (.int .i64 5)) (.tmp 6)), .o 11 (.lt (some 7) (.build [.a (.bool false), .a (.bool false), .a (.bool false), .a (.bool false), .a (.bool false), .a (.bool false), .a (.bool false), .a (.bool false), .a (.bool false), .a (.nilFunc)] [(5, 1, (.const (.bool true))), (1, 1, (.const (.bool true))), (9, 1, (.func model_kinds_3.id))])), .o 12 (.mup [] .i64 (.tmp 1) (.const (.int .i64 6)) (.tmp 7)), .o 13 (.lt (some 8) (.build [.a (.bool false), .a (.bool false), .a (.bool false), .a (.bool false), .a (.bool false), .a (.bool false), .a (.bool false), .a (.bool false), .a (.bool false), .a (.nilFunc)] [(4, 1, (.const (.bool true))), (0, 1, (.const (.bool true))), (6, 1, (.const (.bool true))), (9, 1, (.func model_reif.id))])), .o 14 (.mup [] .i64 (.tmp 1) (.const (.int .i64 7)) (.tmp 8)), .o 15 (.lt (some 9) (.build [.a (.bool false), .a (.bool false), .a (.bool false), .a (.bool false), .a (.bool false), .a (.bool false), .a (.bool false), .a (.bool false), .a (.bool false), .a (.nilFunc)] [(1, 1, (.const (.bool true))), (3, 1, (.const (.bool true))), (9, 1, (.func model_table.id))])), .o 16 (.mup [] .i64 (.tmp 1) (.const (.int .i64 8)) (.tmp 9)), .o 17 (.lt (some 10) (.build [.a (.bool false), .a (.bool false), .a (.bool false), .a (.bool false), .a (.bool false), .a (.bool false), .a (.bool false), .a (.bool false), .a (.bool false), .a (.nilFunc)] [(1, 1, (.const (.bool true))), (6, 1, (.const (.bool true))), (7, 1, (.const (.bool true))), (8, 1, (.const (.bool true))), (9, 1, (.func model_count.id))])), .o 18 (.mup [] .i64 (.tmp 1) (.const (.int .i64 9)) (.tmp 10)), zm 19 11 1, zm 20 0 11, .g (.keep [0])]) (.ret))
def model_kinds.rs : List Rs := [.sl 0]
theorem model_kinds.ok : isFn Tryz.prog model_kinds.id 12 model_kinds.ann model_kinds.ir model_kinds.rs := ⟨Tryz.f43, _, Tryz.func43, rfl, rfl, by kernel_rfl, by kernel_rfl⟩
-- hallmark/model.Holds$1
def model_Holds_1.ann : List (Nat × RA) := [(0, rk [0, 1]), (1, rk [3])]
def model_Holds_1.ir : C := .seq (.reg 0 [zk 0 3 0, .g (.keep [0, 1])]) (.seq (.reg 0 [zl 0 4 1 1, zm 1 5 0, zx 2 6 1 4 5, zl 3 7 1 6, zm 4 3 7, .g (.keep [3])]) (.ret))
def model_Holds_1.rs : List Rs := [.sl 3]
theorem model_Holds_1.ok : isFn Tryz.prog model_Holds_1.id 8 model_Holds_1.ann model_Holds_1.ir model_Holds_1.rs := ⟨Tryz.f44, _, Tryz.func44, rfl, rfl, by kernel_rfl, by kernel_rfl⟩
-- hallmark/hallmarkref4.sameTerms
def hallmarkref4_sameTerms.ann : List (Nat × RA) := [(0, rk [0, 1]), (1, rk [0, 1, 10]), (2, rk [4]), (3, rk [0, 1, 5]), (4, rk [0, 1, 5, 14]), (5, rk [0, 1, 5]), (6, ro [0, 1, 5, 25] [0, 1, 2, 3, 4, 5, 6, 7, 8]), (7, rk [4]), (8, rk [4])]
def hallmarkref4_sameTerms.b0 : C := .seq (.seq (.reg 0 [zm 0 11 5, zm 1 12 0, zn 2 13 12, za 3 14 .lss 11 13, .g (.keep [0, 1, 5, 14])]) (.cond (.tmp 14) (.skip) (.exit 0))) (.seq (.block 1 (.seq (.reg 0 [zm 0 17 0, zm 1 18 5, zx 2 19 2 17 18, zL 3 20 2 19, zm 4 21 1, zm 5 22 5, zx 6 23 2 21 22, zL 7 24 2 23, .o 8 (.lt (some 25) (.eqD true [(0, 0), (1, 0)] (.tmp 20) (.tmp 24))), .g (.keep [0, 1, 5, 25])]) (.cond (.tmp 25) (.seq (.reg 0 [zb 0 4 false, .g (.keep [4])]) (.ret)) (.skip)))) (.reg 0 [zm 0 15 5, zd 1 16 .add 15 1, zm 2 5 16, .g (.keep [0, 1, 5])]))
def hallmarkref4_sameTerms.ir : C := .seq (.reg 0 [zb 0 4 false, .g (.keep [0, 1])]) (.seq (.seq (.reg 0 [zm 0 6 0, zn 1 7 6, zm 2 8 1, zn 3 9 8, za 4 10 .neq 7 9, .g (.keep [0, 1, 10])]) (.cond (.tmp 10) (.seq (.reg 0 [zb 0 4 false, .g (.keep [4])]) (.ret)) (.skip))) (.seq (.seq (.reg 0 [zk 0 5 0, .g (.keep [0, 1, 5])]) (.block 0 (.loop hallmarkref4_sameTerms.b0))) (.seq (.reg 0 [zb 0 4 true, .g (.keep [4])]) (.ret))))
def hallmarkref4_sameTerms.rs : List Rs := [.sl 4]
theorem hallmarkref4_sameTerms.ok : isFn Tryz.prog hallmarkref4_sameTerms.id 26 hallmarkref4_sameTerms.ann hallmarkref4_sameTerms.ir hallmarkref4_sameTerms.rs := ⟨Tryz.f45, _, Tryz.func45, rfl, rfl, by kernel_rfl, by kernel_rfl⟩
-- hallmark/hallmarkref4.sameCon
def hallmarkref4_sameCon.ann : List (Nat × RA) := [(0, rk [2, 3]), (1, rk [4])]
def hallmarkref4_sameCon.ir : C := .seq (.reg 2 [.o 0 (.box (some 2) 0 10 (.tmp 0)), .o 1 (.box (some 3) 1 10 (.tmp 1)), zb 2 4 false, .g (.keep [2, 3])]) (.seq (.reg 0 [zf 0 5 2 4, zl 1 6 1 5, zf 2 7 3 4, zl 3 8 1 7, za 4 9 .eql 6 8, zm 5 10 9, yf 6 10 true 11 2 9, yl 7 10 true 12 1 11, yf 8 10 true 13 3 9, yl 9 10 true 14 1 13, .gd 10 10 true (some 15) (.call (some 15) hallmarkref4_sameRows.id [(.tmp 12), (.tmp 14)]), zr 11 16 10 15 false, zm 12 17 16, yf 13 17 true 18 2 0, yl 14 17 true 19 1 18, yf 15 17 true 20 3 0, yl 16 17 true 21 1 20, ya 17 17 true 22 .eql 19 21, zr 18 23 17 22 false, zm 19 24 23, yf 20 24 true 25 2 1, yl 21 24 true 26 1 25, yf 22 24 true 27 3 1, yl 23 24 true 28 1 27, ya 24 24 true 29 .eql 26 28, zr 25 30 24 29 false, zm 26 31 30, yf 27 31 true 32 2 3, yl 28 31 true 33 1 32, yf 29 31 true 34 3 3, yl 30 31 true 35 1 34, ya 31 31 true 36 .eql 33 35, zr 32 37 31 36 false, zm 33 38 37, yf 34 38 true 39 2 5, yl 35 38 true 40 1 39, yf 36 38 true 41 3 5, yl 37 38 true 42 1 41, ya 38 38 true 43 .eql 40 42, zr 39 44 38 43 false, zm 40 45 44, yf 41 45 true 46 2 6, yl 42 45 true 47 1 46, yf 43 45 true 48 3 6, yl 44 45 true 49 1 48, ya 45 45 true 50 .eql 47 49, zr 46 51 45 50 false, zm 47 52 51, yf 48 52 true 53 2 2, yl 49 52 true 54 1 53, yf 50 52 true 55 3 2, yl 51 52 true 56 1 55, .gd 52 52 true (some 57) (.call (some 57) hallmarkref4_sameTerms.id [(.tmp 54), (.tmp 56)]), zr 53 58 52 57 false, zm 54 59 58, yf 55 59 true 60 2 7, yl 56 59 true 61 1 60, yf 57 59 true 62 3 7, yl 58 59 true 63 1 62, .gd 59 59 true (some 64) (.call (some 64) hallmarkref4_sameInts.id [(.tmp 61), (.tmp 63)]), zr 60 65 59 64 false, zm 61 66 65, yf 62 66 true 67 2 8, yl 63 66 true 68 1 67, yf 64 66 true 69 3 8, yl 65 66 true 70 1 69, .gd 66 66 true (some 71) (.call (some 71) hallmarkref4_sameInts.id [(.tmp 68), (.tmp 70)]), zr 67 72 66 71 false, zm 68 4 72, .g (.keep [4])]) (.ret))
def hallmarkref4_sameCon.rs : List Rs := [.sl 4]
theorem hallmarkref4_sameCon.ok : isFn Tryz.prog hallmarkref4_sameCon.id 73 hallmarkref4_sameCon.ann hallmarkref4_sameCon.ir hallmarkref4_sameCon.rs := ⟨Tryz.f46, _, Tryz.func46, rfl, rfl, by kernel_rfl, by kernel_rfl⟩
-- (*hallmark/hallmarkroom.Room).holdInts
def hallmarkroom_Room_holdInts.ann : List (Nat × RA) := [(0, rk [0]), (1, rk [0, 3]), (2, rk [0, 3, 13]), (3, rk [0, 3]), (4, rk [0, 3, 4]), (5, rk [0, 3, 4, 5]), (6, rk [0, 3, 4, 5, 33]), (7, rk [0, 3, 4, 5]), (8, rk [0, 3, 4, 5, 6]), (9, rk [0, 3, 4, 5, 51]), (10, rk [2]), (11, rk [2])]
def hallmarkroom_Room_holdInts.b1 : C := .seq (.seq (.reg 0 [zm 0 24 5, zm 1 25 0, zc 2 26 25, zf 3 27 26 0, zl 4 28 1 27, zm 5 29 3, zx 6 30 1 28 29, zl 7 31 1 30, zn 8 32 31, za 9 33 .lss 24 32, .g (.keep [0, 3, 4, 5, 33])]) (.cond (.tmp 33) (.skip) (.exit 2))) (.seq (.block 3 (.seq (.reg 0 [zm 0 36 0, zc 1 37 36, zf 2 38 37 0, zl 3 39 1 38, zm 4 40 3, zx 5 41 1 39 40, zl 6 42 1 41, zm 7 43 5, zx 8 44 1 42 43, zl 9 45 1 44, zm 10 6 45, .g (.keep [0, 3, 4, 5, 6])]) (.seq (.reg 0 [zm 0 46 6, zm 1 47 5, zm 2 48 4, za 3 49 .sub 47 48, .o 4 (.call (some 50) hallmarkroom_lot.id [(.tmp 49)]), za 5 51 .neq 46 50, .g (.keep [0, 3, 4, 5, 51])]) (.cond (.tmp 51) (.seq (.reg 0 [zb 0 2 false, .g (.keep [2])]) (.ret)) (.skip))))) (.reg 0 [zm 0 34 5, zd 1 35 .add 34 1, zm 2 5 35, .g (.keep [0, 3, 4, 5])]))
def hallmarkroom_Room_holdInts.b0 : C := .seq (.seq (.reg 0 [zm 0 7 3, zm 1 8 0, zc 2 9 8, zf 3 10 9 0, zl 4 11 1 10, zn 5 12 11, za 6 13 .lss 7 12, .g (.keep [0, 3, 13])]) (.cond (.tmp 13) (.skip) (.exit 0))) (.seq (.block 1 (.seq (.reg 0 [zm 0 16 0, zc 1 17 16, zf 2 18 17 1, zl 3 19 1 18, zm 4 20 3, zx 5 21 1 19 20, zl 6 22 1 21, zm 7 4 22, .g (.keep [0, 3, 4])]) (.seq (.reg 0 [zm 0 23 4, zm 1 5 23, .g (.keep [0, 3, 4, 5])]) (.block 2 (.loop hallmarkroom_Room_holdInts.b1))))) (.reg 0 [zm 0 14 3, zd 1 15 .add 14 1, zm 2 3 15, .g (.keep [0, 3])]))
def hallmarkroom_Room_holdInts.ir : C := .seq (.reg 0 [zb 0 2 false, .g (.keep [0])]) (.seq (.seq (.reg 0 [zk 0 3 0, .g (.keep [0, 3])]) (.block 0 (.loop hallmarkroom_Room_holdInts.b0))) (.seq (.reg 0 [zb 0 2 true, .g (.keep [2])]) (.ret)))
def hallmarkroom_Room_holdInts.rs : List Rs := [.sl 2]
theorem hallmarkroom_Room_holdInts.ok : isFn Tryz.prog hallmarkroom_Room_holdInts.id 52 hallmarkroom_Room_holdInts.ann hallmarkroom_Room_holdInts.ir hallmarkroom_Room_holdInts.rs := ⟨Tryz.f47, _, Tryz.func47, rfl, rfl, by kernel_rfl, by kernel_rfl⟩
-- (*hallmark/hallmarkroom.Room).holdTexts
def hallmarkroom_Room_holdTexts.ann : List (Nat × RA) := [(0, rk [0]), (1, rk [0, 3]), (2, rk [0, 3, 13]), (3, rk [0, 3]), (4, rk [0, 3, 4]), (5, rk [0, 3, 4, 5]), (6, rk [0, 3, 4, 5, 33]), (7, rk [0, 3, 4, 5]), (8, rk [0, 3, 4, 5, 6]), (9, rk [0, 3, 4, 5, 51]), (10, rk [2]), (11, rk [2])]
def hallmarkroom_Room_holdTexts.b1 : C := .seq (.seq (.reg 0 [zm 0 24 5, zm 1 25 0, zc 2 26 25, zf 3 27 26 2, zl 4 28 1 27, zm 5 29 3, zx 6 30 1 28 29, zl 7 31 1 30, zn 8 32 31, za 9 33 .lss 24 32, .g (.keep [0, 3, 4, 5, 33])]) (.cond (.tmp 33) (.skip) (.exit 2))) (.seq (.block 3 (.seq (.reg 0 [zm 0 36 0, zc 1 37 36, zf 2 38 37 2, zl 3 39 1 38, zm 4 40 3, zx 5 41 1 39 40, zl 6 42 1 41, zm 7 43 5, zx 8 44 1 42 43, zl 9 45 1 44, zm 10 6 45, .g (.keep [0, 3, 4, 5, 6])]) (.seq (.reg 0 [zm 0 46 6, zm 1 47 5, zm 2 48 4, za 3 49 .sub 47 48, .o 4 (.call (some 50) hallmarkroom_word.id [(.tmp 49)]), za 5 51 .neq 46 50, .g (.keep [0, 3, 4, 5, 51])]) (.cond (.tmp 51) (.seq (.reg 0 [zb 0 2 false, .g (.keep [2])]) (.ret)) (.skip))))) (.reg 0 [zm 0 34 5, zd 1 35 .add 34 1, zm 2 5 35, .g (.keep [0, 3, 4, 5])]))
def hallmarkroom_Room_holdTexts.b0 : C := .seq (.seq (.reg 0 [zm 0 7 3, zm 1 8 0, zc 2 9 8, zf 3 10 9 2, zl 4 11 1 10, zn 5 12 11, za 6 13 .lss 7 12, .g (.keep [0, 3, 13])]) (.cond (.tmp 13) (.skip) (.exit 0))) (.seq (.block 1 (.seq (.reg 0 [zm 0 16 0, zc 1 17 16, zf 2 18 17 3, zl 3 19 1 18, zm 4 20 3, zx 5 21 1 19 20, zl 6 22 1 21, zm 7 4 22, .g (.keep [0, 3, 4])]) (.seq (.reg 0 [zm 0 23 4, zm 1 5 23, .g (.keep [0, 3, 4, 5])]) (.block 2 (.loop hallmarkroom_Room_holdTexts.b1))))) (.reg 0 [zm 0 14 3, zd 1 15 .add 14 1, zm 2 3 15, .g (.keep [0, 3])]))
def hallmarkroom_Room_holdTexts.ir : C := .seq (.reg 0 [zb 0 2 false, .g (.keep [0])]) (.seq (.seq (.reg 0 [zk 0 3 0, .g (.keep [0, 3])]) (.block 0 (.loop hallmarkroom_Room_holdTexts.b0))) (.seq (.reg 0 [zb 0 2 true, .g (.keep [2])]) (.ret)))
def hallmarkroom_Room_holdTexts.rs : List Rs := [.sl 2]
theorem hallmarkroom_Room_holdTexts.ok : isFn Tryz.prog hallmarkroom_Room_holdTexts.id 52 hallmarkroom_Room_holdTexts.ann hallmarkroom_Room_holdTexts.ir hallmarkroom_Room_holdTexts.rs := ⟨Tryz.f48, _, Tryz.func48, rfl, rfl, by kernel_rfl, by kernel_rfl⟩
-- (*hallmark/hallmarkroom.Room).holdTerms
def hallmarkroom_Room_holdTerms.ann : List (Nat × RA) := [(0, rk [0]), (1, rk [0, 3]), (2, rk [0, 3, 13]), (3, rk [0, 3]), (4, rk [0, 3, 4]), (5, rk [0, 3, 4, 5]), (6, rk [0, 3, 4, 5, 33]), (7, rk [0, 3, 4, 5]), (8, rk [0, 3, 4, 5, 6]), (9, ro [0, 3, 4, 5, 52] [0, 1, 2, 3, 4, 5, 6]), (10, rk [2]), (11, rk [2])]
def hallmarkroom_Room_holdTerms.b1 : C := .seq (.seq (.reg 0 [zm 0 24 5, zm 1 25 0, zc 2 26 25, zf 3 27 26 4, zl 4 28 1 27, zm 5 29 3, zx 6 30 1 28 29, zl 7 31 1 30, zn 8 32 31, za 9 33 .lss 24 32, .g (.keep [0, 3, 4, 5, 33])]) (.cond (.tmp 33) (.skip) (.exit 2))) (.seq (.block 3 (.seq (.reg 1 [zm 0 36 0, zc 1 37 36, zf 2 38 37 4, zl 3 39 1 38, zm 4 40 3, zx 5 41 1 39 40, zl 6 42 1 41, zm 7 43 5, zx 8 44 2 42 43, zL 9 45 2 44, .o 10 (.alloc (some 6) 0 2 [.a (.int .i64 0), .a (.int .i64 0)]), .o 11 (.store [] 2 (.tmp 6) (.tmp 45)), .g (.keep [0, 3, 4, 5, 6])]) (.seq (.reg 0 [zL 0 46 2 6, zm 1 47 5, zm 2 48 4, za 3 49 .sub 47 48, .o 4 (.call (some 50) hallmarkroom_lot.id [(.tmp 49)]), .o 5 (.lt (some 51) (.build [.a (.int .i64 0), .a (.int .i64 0)] [(0, 1, (.tmp 50))])), .o 6 (.lt (some 52) (.eqD true [(0, 0), (1, 0)] (.tmp 46) (.tmp 51))), .g (.keep [0, 3, 4, 5, 52])]) (.cond (.tmp 52) (.seq (.reg 0 [zb 0 2 false, .g (.keep [2])]) (.ret)) (.skip))))) (.reg 0 [zm 0 34 5, zd 1 35 .add 34 1, zm 2 5 35, .g (.keep [0, 3, 4, 5])]))
def hallmarkroom_Room_holdTerms.b0 : C := .seq (.seq (.reg 0 [zm 0 7 3, zm 1 8 0, zc 2 9 8, zf 3 10 9 4, zl 4 11 1 10, zn 5 12 11, za 6 13 .lss 7 12, .g (.keep [0, 3, 13])]) (.cond (.tmp 13) (.skip) (.exit 0))) (.seq (.block 1 (.seq (.reg 0 [zm 0 16 0, zc 1 17 16, zf 2 18 17 5, zl 3 19 1 18, zm 4 20 3, zx 5 21 1 19 20, zl 6 22 1 21, zm 7 4 22, .g (.keep [0, 3, 4])]) (.seq (.reg 0 [zm 0 23 4, zm 1 5 23, .g (.keep [0, 3, 4, 5])]) (.block 2 (.loop hallmarkroom_Room_holdTerms.b1))))) (.reg 0 [zm 0 14 3, zd 1 15 .add 14 1, zm 2 3 15, .g (.keep [0, 3])]))
def hallmarkroom_Room_holdTerms.ir : C := .seq (.reg 0 [zb 0 2 false, .g (.keep [0])]) (.seq (.seq (.reg 0 [zk 0 3 0, .g (.keep [0, 3])]) (.block 0 (.loop hallmarkroom_Room_holdTerms.b0))) (.seq (.reg 0 [zb 0 2 true, .g (.keep [2])]) (.ret)))
def hallmarkroom_Room_holdTerms.rs : List Rs := [.sl 2]
theorem hallmarkroom_Room_holdTerms.ok : isFn Tryz.prog hallmarkroom_Room_holdTerms.id 53 hallmarkroom_Room_holdTerms.ann hallmarkroom_Room_holdTerms.ir hallmarkroom_Room_holdTerms.rs := ⟨Tryz.f49, _, Tryz.func49, rfl, rfl, by kernel_rfl, by kernel_rfl⟩
-- (*hallmark/hallmarkroom.Room).holdVars
def hallmarkroom_Room_holdVars.ann : List (Nat × RA) := [(0, rk [0]), (1, rk [0, 3]), (2, rk [0, 3, 13]), (3, rk [0, 3]), (4, rk [0, 3, 4]), (5, rk [0, 3, 4, 5]), (6, rk [0, 3, 4, 5, 33]), (7, rk [0, 3, 4, 5]), (8, rk [0, 3, 4, 5, 6]), (9, ro [0, 3, 4, 5, 52] [0, 1, 2, 3, 4, 5, 6]), (10, rk [2]), (11, rk [2])]
def hallmarkroom_Room_holdVars.b1 : C := .seq (.seq (.reg 0 [zm 0 24 5, zm 1 25 0, zc 2 26 25, zf 3 27 26 6, zl 4 28 1 27, zm 5 29 3, zx 6 30 1 28 29, zl 7 31 1 30, zn 8 32 31, za 9 33 .lss 24 32, .g (.keep [0, 3, 4, 5, 33])]) (.cond (.tmp 33) (.skip) (.exit 2))) (.seq (.block 3 (.seq (.reg 1 [zm 0 36 0, zc 1 37 36, zf 2 38 37 6, zl 3 39 1 38, zm 4 40 3, zx 5 41 1 39 40, zl 6 42 1 41, zm 7 43 5, zx 8 44 3 42 43, zL 9 45 3 44, .o 10 (.alloc (some 6) 0 3 [.a (.string ⟨#[]⟩), .a (.int .i64 0), .a (.int .i64 0)]), .o 11 (.store [] 3 (.tmp 6) (.tmp 45)), .g (.keep [0, 3, 4, 5, 6])]) (.seq (.reg 0 [zL 0 46 3 6, zm 1 47 5, zm 2 48 4, za 3 49 .sub 47 48, .o 4 (.call (some 50) hallmarkroom_lot.id [(.tmp 49)]), .o 5 (.lt (some 51) (.build [.a (.string ⟨#[]⟩), .a (.int .i64 0), .a (.int .i64 0)] [(1, 1, (.tmp 50))])), .o 6 (.lt (some 52) (.eqD true [(0, 1), (1, 0), (2, 0)] (.tmp 46) (.tmp 51))), .g (.keep [0, 3, 4, 5, 52])]) (.cond (.tmp 52) (.seq (.reg 0 [zb 0 2 false, .g (.keep [2])]) (.ret)) (.skip))))) (.reg 0 [zm 0 34 5, zd 1 35 .add 34 1, zm 2 5 35, .g (.keep [0, 3, 4, 5])]))
def hallmarkroom_Room_holdVars.b0 : C := .seq (.seq (.reg 0 [zm 0 7 3, zm 1 8 0, zc 2 9 8, zf 3 10 9 6, zl 4 11 1 10, zn 5 12 11, za 6 13 .lss 7 12, .g (.keep [0, 3, 13])]) (.cond (.tmp 13) (.skip) (.exit 0))) (.seq (.block 1 (.seq (.reg 0 [zm 0 16 0, zc 1 17 16, zf 2 18 17 7, zl 3 19 1 18, zm 4 20 3, zx 5 21 1 19 20, zl 6 22 1 21, zm 7 4 22, .g (.keep [0, 3, 4])]) (.seq (.reg 0 [zm 0 23 4, zm 1 5 23, .g (.keep [0, 3, 4, 5])]) (.block 2 (.loop hallmarkroom_Room_holdVars.b1))))) (.reg 0 [zm 0 14 3, zd 1 15 .add 14 1, zm 2 3 15, .g (.keep [0, 3])]))
def hallmarkroom_Room_holdVars.ir : C := .seq (.reg 0 [zb 0 2 false, .g (.keep [0])]) (.seq (.seq (.reg 0 [zk 0 3 0, .g (.keep [0, 3])]) (.block 0 (.loop hallmarkroom_Room_holdVars.b0))) (.seq (.reg 0 [zb 0 2 true, .g (.keep [2])]) (.ret)))
def hallmarkroom_Room_holdVars.rs : List Rs := [.sl 2]
theorem hallmarkroom_Room_holdVars.ok : isFn Tryz.prog hallmarkroom_Room_holdVars.id 53 hallmarkroom_Room_holdVars.ann hallmarkroom_Room_holdVars.ir hallmarkroom_Room_holdVars.rs := ⟨Tryz.f50, _, Tryz.func50, rfl, rfl, by kernel_rfl, by kernel_rfl⟩
-- (*hallmark/hallmarkroom.Room).holdPieces
def hallmarkroom_Room_holdPieces.ann : List (Nat × RA) := [(0, rk [0]), (1, rk [0, 3]), (2, rk [0, 3, 13]), (3, rk [0, 3]), (4, rk [0, 3, 4]), (5, rk [0, 3, 4, 5]), (6, rk [0, 3, 4, 5, 33]), (7, rk [0, 3, 4, 5]), (8, rk [0, 3, 4, 5, 6]), (9, ro [0, 3, 4, 5, 52] [0, 1, 2, 3, 4, 5, 6]), (10, rk [2]), (11, rk [2])]
def hallmarkroom_Room_holdPieces.b1 : C := .seq (.seq (.reg 0 [zm 0 24 5, zm 1 25 0, zc 2 26 25, zf 3 27 26 8, zl 4 28 1 27, zm 5 29 3, zx 6 30 1 28 29, zl 7 31 1 30, zn 8 32 31, za 9 33 .lss 24 32, .g (.keep [0, 3, 4, 5, 33])]) (.cond (.tmp 33) (.skip) (.exit 2))) (.seq (.block 3 (.seq (.reg 1 [zm 0 36 0, zc 1 37 36, zf 2 38 37 8, zl 3 39 1 38, zm 4 40 3, zx 5 41 1 39 40, zl 6 42 1 41, zm 7 43 5, zx 8 44 2 42 43, zL 9 45 2 44, .o 10 (.alloc (some 6) 0 2 [.a (.string ⟨#[]⟩), .a (.int .i64 0)]), .o 11 (.store [] 2 (.tmp 6) (.tmp 45)), .g (.keep [0, 3, 4, 5, 6])]) (.seq (.reg 0 [zL 0 46 2 6, zm 1 47 5, zm 2 48 4, za 3 49 .sub 47 48, .o 4 (.call (some 50) hallmarkroom_lot.id [(.tmp 49)]), .o 5 (.lt (some 51) (.build [.a (.string ⟨#[]⟩), .a (.int .i64 0)] [(1, 1, (.tmp 50))])), .o 6 (.lt (some 52) (.eqD true [(0, 1), (1, 0)] (.tmp 46) (.tmp 51))), .g (.keep [0, 3, 4, 5, 52])]) (.cond (.tmp 52) (.seq (.reg 0 [zb 0 2 false, .g (.keep [2])]) (.ret)) (.skip))))) (.reg 0 [zm 0 34 5, zd 1 35 .add 34 1, zm 2 5 35, .g (.keep [0, 3, 4, 5])]))
def hallmarkroom_Room_holdPieces.b0 : C := .seq (.seq (.reg 0 [zm 0 7 3, zm 1 8 0, zc 2 9 8, zf 3 10 9 8, zl 4 11 1 10, zn 5 12 11, za 6 13 .lss 7 12, .g (.keep [0, 3, 13])]) (.cond (.tmp 13) (.skip) (.exit 0))) (.seq (.block 1 (.seq (.reg 0 [zm 0 16 0, zc 1 17 16, zf 2 18 17 9, zl 3 19 1 18, zm 4 20 3, zx 5 21 1 19 20, zl 6 22 1 21, zm 7 4 22, .g (.keep [0, 3, 4])]) (.seq (.reg 0 [zm 0 23 4, zm 1 5 23, .g (.keep [0, 3, 4, 5])]) (.block 2 (.loop hallmarkroom_Room_holdPieces.b1))))) (.reg 0 [zm 0 14 3, zd 1 15 .add 14 1, zm 2 3 15, .g (.keep [0, 3])]))
def hallmarkroom_Room_holdPieces.ir : C := .seq (.reg 0 [zb 0 2 false, .g (.keep [0])]) (.seq (.seq (.reg 0 [zk 0 3 0, .g (.keep [0, 3])]) (.block 0 (.loop hallmarkroom_Room_holdPieces.b0))) (.seq (.reg 0 [zb 0 2 true, .g (.keep [2])]) (.ret)))
def hallmarkroom_Room_holdPieces.rs : List Rs := [.sl 2]
theorem hallmarkroom_Room_holdPieces.ok : isFn Tryz.prog hallmarkroom_Room_holdPieces.id 53 hallmarkroom_Room_holdPieces.ann hallmarkroom_Room_holdPieces.ir hallmarkroom_Room_holdPieces.rs := ⟨Tryz.f51, _, Tryz.func51, rfl, rfl, by kernel_rfl, by kernel_rfl⟩
-- (*hallmark/hallmarkroom.Room).holdOps
def hallmarkroom_Room_holdOps.ann : List (Nat × RA) := [(0, rk [0]), (1, rk [0, 3]), (2, rk [0, 3, 13]), (3, rk [0, 3]), (4, rk [0, 3, 4]), (5, rk [0, 3, 4, 5]), (6, rk [0, 3, 4, 5, 33]), (7, rk [0, 3, 4, 5]), (8, rk [0, 3, 4, 5, 6]), (9, ro [0, 3, 4, 5, 52] [0, 1, 2, 3, 4, 5, 6]), (10, rk [2]), (11, rk [2])]
def hallmarkroom_Room_holdOps.b1 : C := .seq (.seq (.reg 0 [zm 0 24 5, zm 1 25 0, zc 2 26 25, zf 3 27 26 10, zl 4 28 1 27, zm 5 29 3, zx 6 30 1 28 29, zl 7 31 1 30, zn 8 32 31, za 9 33 .lss 24 32, .g (.keep [0, 3, 4, 5, 33])]) (.cond (.tmp 33) (.skip) (.exit 2))) (.seq (.block 3 (.seq (.reg 1 [zm 0 36 0, zc 1 37 36, zf 2 38 37 10, zl 3 39 1 38, zm 4 40 3, zx 5 41 1 39 40, zl 6 42 1 41, zm 7 43 5, zx 8 44 3 42 43, zL 9 45 3 44, .o 10 (.alloc (some 6) 0 3 [.a (.int .i64 0), .a (.string ⟨#[]⟩), .a (.int .i64 0)]), .o 11 (.store [] 3 (.tmp 6) (.tmp 45)), .g (.keep [0, 3, 4, 5, 6])]) (.seq (.reg 0 [zL 0 46 3 6, zm 1 47 5, zm 2 48 4, za 3 49 .sub 47 48, .o 4 (.call (some 50) hallmarkroom_lot.id [(.tmp 49)]), .o 5 (.lt (some 51) (.build [.a (.int .i64 0), .a (.string ⟨#[]⟩), .a (.int .i64 0)] [(2, 1, (.tmp 50))])), .o 6 (.lt (some 52) (.eqD true [(0, 0), (1, 1), (2, 0)] (.tmp 46) (.tmp 51))), .g (.keep [0, 3, 4, 5, 52])]) (.cond (.tmp 52) (.seq (.reg 0 [zb 0 2 false, .g (.keep [2])]) (.ret)) (.skip))))) (.reg 0 [zm 0 34 5, zd 1 35 .add 34 1, zm 2 5 35, .g (.keep [0, 3, 4, 5])]))
def hallmarkroom_Room_holdOps.b0 : C := .seq (.seq (.reg 0 [zm 0 7 3, zm 1 8 0, zc 2 9 8, zf 3 10 9 10, zl 4 11 1 10, zn 5 12 11, za 6 13 .lss 7 12, .g (.keep [0, 3, 13])]) (.cond (.tmp 13) (.skip) (.exit 0))) (.seq (.block 1 (.seq (.reg 0 [zm 0 16 0, zc 1 17 16, zf 2 18 17 11, zl 3 19 1 18, zm 4 20 3, zx 5 21 1 19 20, zl 6 22 1 21, zm 7 4 22, .g (.keep [0, 3, 4])]) (.seq (.reg 0 [zm 0 23 4, zm 1 5 23, .g (.keep [0, 3, 4, 5])]) (.block 2 (.loop hallmarkroom_Room_holdOps.b1))))) (.reg 0 [zm 0 14 3, zd 1 15 .add 14 1, zm 2 3 15, .g (.keep [0, 3])]))
def hallmarkroom_Room_holdOps.ir : C := .seq (.reg 0 [zb 0 2 false, .g (.keep [0])]) (.seq (.seq (.reg 0 [zk 0 3 0, .g (.keep [0, 3])]) (.block 0 (.loop hallmarkroom_Room_holdOps.b0))) (.seq (.reg 0 [zb 0 2 true, .g (.keep [2])]) (.ret)))
def hallmarkroom_Room_holdOps.rs : List Rs := [.sl 2]
theorem hallmarkroom_Room_holdOps.ok : isFn Tryz.prog hallmarkroom_Room_holdOps.id 53 hallmarkroom_Room_holdOps.ann hallmarkroom_Room_holdOps.ir hallmarkroom_Room_holdOps.rs := ⟨Tryz.f52, _, Tryz.func52, rfl, rfl, by kernel_rfl, by kernel_rfl⟩
-- (*hallmark/hallmarkroom.Room).holdCuts
def hallmarkroom_Room_holdCuts.ann : List (Nat × RA) := [(0, rk [0]), (1, rk [0, 3]), (2, rk [0, 3, 13]), (3, rk [0, 3]), (4, rk [0, 3, 4]), (5, rk [0, 3, 4, 5]), (6, rk [0, 3, 4, 5, 33]), (7, rk [0, 3, 4, 5]), (8, rk [0, 3, 4, 5, 6]), (9, ro [0, 3, 4, 5, 52] [0, 1, 2, 3, 4, 5, 6]), (10, rk [2]), (11, rk [2])]
def hallmarkroom_Room_holdCuts.b1 : C := .seq (.seq (.reg 0 [zm 0 24 5, zm 1 25 0, zc 2 26 25, zf 3 27 26 12, zl 4 28 1 27, zm 5 29 3, zx 6 30 1 28 29, zl 7 31 1 30, zn 8 32 31, za 9 33 .lss 24 32, .g (.keep [0, 3, 4, 5, 33])]) (.cond (.tmp 33) (.skip) (.exit 2))) (.seq (.block 3 (.seq (.reg 1 [zm 0 36 0, zc 1 37 36, zf 2 38 37 12, zl 3 39 1 38, zm 4 40 3, zx 5 41 1 39 40, zl 6 42 1 41, zm 7 43 5, zx 8 44 3 42 43, zL 9 45 3 44, .o 10 (.alloc (some 6) 0 3 [.a (.int .i64 0), .a (.int .i64 0), .a (.int .i64 0)]), .o 11 (.store [] 3 (.tmp 6) (.tmp 45)), .g (.keep [0, 3, 4, 5, 6])]) (.seq (.reg 0 [zL 0 46 3 6, zm 1 47 5, zm 2 48 4, za 3 49 .sub 47 48, .o 4 (.call (some 50) hallmarkroom_lot.id [(.tmp 49)]), .o 5 (.lt (some 51) (.build [.a (.int .i64 0), .a (.int .i64 0), .a (.int .i64 0)] [(2, 1, (.tmp 50))])), .o 6 (.lt (some 52) (.eqD true [(0, 0), (1, 0), (2, 0)] (.tmp 46) (.tmp 51))), .g (.keep [0, 3, 4, 5, 52])]) (.cond (.tmp 52) (.seq (.reg 0 [zb 0 2 false, .g (.keep [2])]) (.ret)) (.skip))))) (.reg 0 [zm 0 34 5, zd 1 35 .add 34 1, zm 2 5 35, .g (.keep [0, 3, 4, 5])]))
def hallmarkroom_Room_holdCuts.b0 : C := .seq (.seq (.reg 0 [zm 0 7 3, zm 1 8 0, zc 2 9 8, zf 3 10 9 12, zl 4 11 1 10, zn 5 12 11, za 6 13 .lss 7 12, .g (.keep [0, 3, 13])]) (.cond (.tmp 13) (.skip) (.exit 0))) (.seq (.block 1 (.seq (.reg 0 [zm 0 16 0, zc 1 17 16, zf 2 18 17 13, zl 3 19 1 18, zm 4 20 3, zx 5 21 1 19 20, zl 6 22 1 21, zm 7 4 22, .g (.keep [0, 3, 4])]) (.seq (.reg 0 [zm 0 23 4, zm 1 5 23, .g (.keep [0, 3, 4, 5])]) (.block 2 (.loop hallmarkroom_Room_holdCuts.b1))))) (.reg 0 [zm 0 14 3, zd 1 15 .add 14 1, zm 2 3 15, .g (.keep [0, 3])]))
def hallmarkroom_Room_holdCuts.ir : C := .seq (.reg 0 [zb 0 2 false, .g (.keep [0])]) (.seq (.seq (.reg 0 [zk 0 3 0, .g (.keep [0, 3])]) (.block 0 (.loop hallmarkroom_Room_holdCuts.b0))) (.seq (.reg 0 [zb 0 2 true, .g (.keep [2])]) (.ret)))
def hallmarkroom_Room_holdCuts.rs : List Rs := [.sl 2]
theorem hallmarkroom_Room_holdCuts.ok : isFn Tryz.prog hallmarkroom_Room_holdCuts.id 53 hallmarkroom_Room_holdCuts.ann hallmarkroom_Room_holdCuts.ir hallmarkroom_Room_holdCuts.rs := ⟨Tryz.f53, _, Tryz.func53, rfl, rfl, by kernel_rfl, by kernel_rfl⟩
-- (*hallmark/hallmarkroom.Room).holdMeans
def hallmarkroom_Room_holdMeans.ann : List (Nat × RA) := [(0, rk [0]), (1, rk [0, 3]), (2, rk [0, 3, 13]), (3, rk [0, 3]), (4, rk [0, 3, 4]), (5, rk [0, 3, 4, 5]), (6, rk [0, 3, 4, 5, 33]), (7, rk [0, 3, 4, 5]), (8, rk [0, 3, 4, 5, 6]), (9, ro [0, 3, 4, 5, 52] [0, 1, 2, 3, 4, 5, 6]), (10, rk [2]), (11, rk [2])]
def hallmarkroom_Room_holdMeans.b1 : C := .seq (.seq (.reg 0 [zm 0 24 5, zm 1 25 0, zc 2 26 25, zf 3 27 26 14, zl 4 28 1 27, zm 5 29 3, zx 6 30 1 28 29, zl 7 31 1 30, zn 8 32 31, za 9 33 .lss 24 32, .g (.keep [0, 3, 4, 5, 33])]) (.cond (.tmp 33) (.skip) (.exit 2))) (.seq (.block 3 (.seq (.reg 1 [zm 0 36 0, zc 1 37 36, zf 2 38 37 14, zl 3 39 1 38, zm 4 40 3, zx 5 41 1 39 40, zl 6 42 1 41, zm 7 43 5, zx 8 44 6 42 43, zL 9 45 6 44, .o 10 (.alloc (some 6) 0 6 [.a (.int .i64 0), .a (.int .i64 0), .a (.bool false), .a (.int .i64 0), .a (.int .i64 0), .a (.bool false)]), .o 11 (.store [] 6 (.tmp 6) (.tmp 45)), .g (.keep [0, 3, 4, 5, 6])]) (.seq (.reg 0 [zL 0 46 6 6, zm 1 47 5, zm 2 48 4, za 3 49 .sub 47 48, .o 4 (.call (some 50) hallmarkroom_lot.id [(.tmp 49)]), .o 5 (.lt (some 51) (.build [.a (.int .i64 0), .a (.int .i64 0), .a (.bool false), .a (.int .i64 0), .a (.int .i64 0), .a (.bool false)] [(1, 1, (.tmp 50))])), .o 6 (.lt (some 52) (.eqD true [(0, 0), (1, 0), (2, 2), (3, 0), (4, 0), (5, 2)] (.tmp 46) (.tmp 51))), .g (.keep [0, 3, 4, 5, 52])]) (.cond (.tmp 52) (.seq (.reg 0 [zb 0 2 false, .g (.keep [2])]) (.ret)) (.skip))))) (.reg 0 [zm 0 34 5, zd 1 35 .add 34 1, zm 2 5 35, .g (.keep [0, 3, 4, 5])]))
def hallmarkroom_Room_holdMeans.b0 : C := .seq (.seq (.reg 0 [zm 0 7 3, zm 1 8 0, zc 2 9 8, zf 3 10 9 14, zl 4 11 1 10, zn 5 12 11, za 6 13 .lss 7 12, .g (.keep [0, 3, 13])]) (.cond (.tmp 13) (.skip) (.exit 0))) (.seq (.block 1 (.seq (.reg 0 [zm 0 16 0, zc 1 17 16, zf 2 18 17 15, zl 3 19 1 18, zm 4 20 3, zx 5 21 1 19 20, zl 6 22 1 21, zm 7 4 22, .g (.keep [0, 3, 4])]) (.seq (.reg 0 [zm 0 23 4, zm 1 5 23, .g (.keep [0, 3, 4, 5])]) (.block 2 (.loop hallmarkroom_Room_holdMeans.b1))))) (.reg 0 [zm 0 14 3, zd 1 15 .add 14 1, zm 2 3 15, .g (.keep [0, 3])]))
def hallmarkroom_Room_holdMeans.ir : C := .seq (.reg 0 [zb 0 2 false, .g (.keep [0])]) (.seq (.seq (.reg 0 [zk 0 3 0, .g (.keep [0, 3])]) (.block 0 (.loop hallmarkroom_Room_holdMeans.b0))) (.seq (.reg 0 [zb 0 2 true, .g (.keep [2])]) (.ret)))
def hallmarkroom_Room_holdMeans.rs : List Rs := [.sl 2]
theorem hallmarkroom_Room_holdMeans.ok : isFn Tryz.prog hallmarkroom_Room_holdMeans.id 53 hallmarkroom_Room_holdMeans.ann hallmarkroom_Room_holdMeans.ir hallmarkroom_Room_holdMeans.rs := ⟨Tryz.f54, _, Tryz.func54, rfl, rfl, by kernel_rfl, by kernel_rfl⟩
-- (*hallmark/hallmarkroom.Room).holdLists
def hallmarkroom_Room_holdLists.ann : List (Nat × RA) := [(0, rk [0]), (1, rk [0, 3]), (2, rk [0, 3, 13]), (3, rk [0, 3]), (4, rk [0, 3, 4]), (5, rk [0, 3, 4, 5]), (6, rk [0, 3, 4, 5, 33]), (7, rk [0, 3, 4, 5]), (8, rk [0, 3, 4, 5, 6]), (9, ro [0, 3, 4, 5, 58] [0, 1, 2, 3, 4, 5, 6, 7, 8, 9, 10, 11, 12]), (10, rk [2]), (11, rk [2])]
def hallmarkroom_Room_holdLists.b1 : C := .seq (.seq (.reg 0 [zm 0 24 5, zm 1 25 0, zc 2 26 25, zf 3 27 26 16, zl 4 28 1 27, zm 5 29 3, zx 6 30 1 28 29, zl 7 31 1 30, zn 8 32 31, za 9 33 .lss 24 32, .g (.keep [0, 3, 4, 5, 33])]) (.cond (.tmp 33) (.skip) (.exit 2))) (.seq (.block 3 (.seq (.reg 0 [zm 0 36 0, zc 1 37 36, zf 2 38 37 16, zl 3 39 1 38, zm 4 40 3, zx 5 41 1 39 40, zl 6 42 1 41, zm 7 43 5, zx 8 44 1 42 43, zl 9 45 1 44, zm 10 6 45, .g (.keep [0, 3, 4, 5, 6])]) (.seq (.reg 0 [zm 0 46 6, zn 1 47 46, zd 2 48 .neq 47 1, zm 3 49 48, ym 4 49 false 50 6, .gd 5 49 false (some 51) (.lt (some 51) (.ixS 1 (.tmp 50) (.const (.int .i64 0)))), yl 6 49 false 52 1 51, ym 7 49 false 53 5, ym 8 49 false 54 4, ya 9 49 false 55 .sub 53 54, .gd 10 49 false (some 56) (.call (some 56) hallmarkroom_lot.id [(.tmp 55)]), ya 11 49 false 57 .neq 52 56, zp 12 58 49 true 57, .g (.keep [0, 3, 4, 5, 58])]) (.cond (.tmp 58) (.seq (.reg 0 [zb 0 2 false, .g (.keep [2])]) (.ret)) (.skip))))) (.reg 0 [zm 0 34 5, zd 1 35 .add 34 1, zm 2 5 35, .g (.keep [0, 3, 4, 5])]))
def hallmarkroom_Room_holdLists.b0 : C := .seq (.seq (.reg 0 [zm 0 7 3, zm 1 8 0, zc 2 9 8, zf 3 10 9 16, zl 4 11 1 10, zn 5 12 11, za 6 13 .lss 7 12, .g (.keep [0, 3, 13])]) (.cond (.tmp 13) (.skip) (.exit 0))) (.seq (.block 1 (.seq (.reg 0 [zm 0 16 0, zc 1 17 16, zf 2 18 17 17, zl 3 19 1 18, zm 4 20 3, zx 5 21 1 19 20, zl 6 22 1 21, zm 7 4 22, .g (.keep [0, 3, 4])]) (.seq (.reg 0 [zm 0 23 4, zm 1 5 23, .g (.keep [0, 3, 4, 5])]) (.block 2 (.loop hallmarkroom_Room_holdLists.b1))))) (.reg 0 [zm 0 14 3, zd 1 15 .add 14 1, zm 2 3 15, .g (.keep [0, 3])]))
def hallmarkroom_Room_holdLists.ir : C := .seq (.reg 0 [zb 0 2 false, .g (.keep [0])]) (.seq (.seq (.reg 0 [zk 0 3 0, .g (.keep [0, 3])]) (.block 0 (.loop hallmarkroom_Room_holdLists.b0))) (.seq (.reg 0 [zb 0 2 true, .g (.keep [2])]) (.ret)))
def hallmarkroom_Room_holdLists.rs : List Rs := [.sl 2]
theorem hallmarkroom_Room_holdLists.ok : isFn Tryz.prog hallmarkroom_Room_holdLists.id 59 hallmarkroom_Room_holdLists.ann hallmarkroom_Room_holdLists.ir hallmarkroom_Room_holdLists.rs := ⟨Tryz.f55, _, Tryz.func55, rfl, rfl, by kernel_rfl, by kernel_rfl⟩
-- (*hallmark/hallmarkroom.Room).holdCons
def hallmarkroom_Room_holdCons.ann : List (Nat × RA) := [(0, rk [0]), (1, rk [0, 3]), (2, rk [0, 3, 13]), (3, rk [0, 3]), (4, rk [0, 3, 4]), (5, rk [0, 3, 4, 5]), (6, rk [0, 3, 4, 5, 33]), (7, rk [0, 3, 4, 5]), (8, rk [0, 3, 4, 5, 6]), (9, ro [0, 3, 4, 5, 71] [0, 1, 2, 3, 4, 5, 6, 7, 8, 9, 10, 11, 12, 13, 14, 15, 16, 17, 18, 19, 20, 21, 22, 23, 24, 25]), (10, rk [2]), (11, rk [2])]
def hallmarkroom_Room_holdCons.b1 : C := .seq (.seq (.reg 0 [zm 0 24 5, zm 1 25 0, zc 2 26 25, zf 3 27 26 18, zl 4 28 1 27, zm 5 29 3, zx 6 30 1 28 29, zl 7 31 1 30, zn 8 32 31, za 9 33 .lss 24 32, .g (.keep [0, 3, 4, 5, 33])]) (.cond (.tmp 33) (.skip) (.exit 2))) (.seq (.block 3 (.seq (.reg 1 [zm 0 36 0, zc 1 37 36, zf 2 38 37 18, zl 3 39 1 38, zm 4 40 3, zx 5 41 1 39 40, zl 6 42 1 41, zm 7 43 5, zx 8 44 10 42 43, zL 9 45 10 44, .o 10 (.alloc (some 6) 0 10 [.a (.int .i64 0), .a (.int .i64 0), .a (.slice none 0 0), .a (.int .i64 0), .a (.int .i64 0), .a (.int .i64 0), .a (.int .i64 0), .a (.slice none 0 0), .a (.slice none 0 0), .a (.slice none 0 0)]), .o 11 (.store [] 10 (.tmp 6) (.tmp 45)), .g (.keep [0, 3, 4, 5, 6])]) (.seq (.reg 0 [zf 0 46 6 5, zl 1 47 1 46, zm 2 48 5, zm 3 49 4, za 4 50 .sub 48 49, .o 5 (.call (some 51) hallmarkroom_lot.id [(.tmp 50)]), za 6 52 .neq 47 51, zm 7 53 52, yf 8 53 false 54 6 0, yl 9 53 false 55 1 54, yd 10 53 false 56 .neq 55 0, zp 11 57 53 true 56, zm 12 58 57, yf 13 58 false 59 6 2, yl 14 58 false 60 1 59, yn 15 58 false 61 60, yf 16 58 false 62 6 7, yl 17 58 false 63 1 62, yn 18 58 false 64 63, ya 19 58 false 65 .add 61 64, yf 20 58 false 66 6 8, yl 21 58 false 67 1 66, yn 22 58 false 68 67, ya 23 58 false 69 .add 65 68, yd 24 58 false 70 .neq 69 0, zp 25 71 58 true 70, .g (.keep [0, 3, 4, 5, 71])]) (.cond (.tmp 71) (.seq (.reg 0 [zb 0 2 false, .g (.keep [2])]) (.ret)) (.skip))))) (.reg 0 [zm 0 34 5, zd 1 35 .add 34 1, zm 2 5 35, .g (.keep [0, 3, 4, 5])]))
def hallmarkroom_Room_holdCons.b0 : C := .seq (.seq (.reg 0 [zm 0 7 3, zm 1 8 0, zc 2 9 8, zf 3 10 9 18, zl 4 11 1 10, zn 5 12 11, za 6 13 .lss 7 12, .g (.keep [0, 3, 13])]) (.cond (.tmp 13) (.skip) (.exit 0))) (.seq (.block 1 (.seq (.reg 0 [zm 0 16 0, zc 1 17 16, zf 2 18 17 19, zl 3 19 1 18, zm 4 20 3, zx 5 21 1 19 20, zl 6 22 1 21, zm 7 4 22, .g (.keep [0, 3, 4])]) (.seq (.reg 0 [zm 0 23 4, zm 1 5 23, .g (.keep [0, 3, 4, 5])]) (.block 2 (.loop hallmarkroom_Room_holdCons.b1))))) (.reg 0 [zm 0 14 3, zd 1 15 .add 14 1, zm 2 3 15, .g (.keep [0, 3])]))
def hallmarkroom_Room_holdCons.ir : C := .seq (.reg 0 [zb 0 2 false, .g (.keep [0])]) (.seq (.seq (.reg 0 [zk 0 3 0, .g (.keep [0, 3])]) (.block 0 (.loop hallmarkroom_Room_holdCons.b0))) (.seq (.reg 0 [zb 0 2 true, .g (.keep [2])]) (.ret)))
def hallmarkroom_Room_holdCons.rs : List Rs := [.sl 2]
theorem hallmarkroom_Room_holdCons.ok : isFn Tryz.prog hallmarkroom_Room_holdCons.id 72 hallmarkroom_Room_holdCons.ann hallmarkroom_Room_holdCons.ir hallmarkroom_Room_holdCons.rs := ⟨Tryz.f56, _, Tryz.func56, rfl, rfl, by kernel_rfl, by kernel_rfl⟩
-- (*hallmark/hallmarkroom.Room).holdRows
def hallmarkroom_Room_holdRows.ann : List (Nat × RA) := [(0, rk [0]), (1, rk [0, 3]), (2, rk [0, 3, 13]), (3, rk [0, 3]), (4, rk [0, 3, 4]), (5, rk [0, 3, 4, 5]), (6, rk [0, 3, 4, 5, 33]), (7, rk [0, 3, 4, 5]), (8, rk [0, 3, 4, 5, 6]), (9, ro [0, 3, 4, 5, 58] [0, 1, 2, 3, 4, 5, 6, 7, 8, 9, 10, 11, 12]), (10, rk [2]), (11, rk [2])]
def hallmarkroom_Room_holdRows.b1 : C := .seq (.seq (.reg 0 [zm 0 24 5, zm 1 25 0, zc 2 26 25, zf 3 27 26 20, zl 4 28 1 27, zm 5 29 3, zx 6 30 1 28 29, zl 7 31 1 30, zn 8 32 31, za 9 33 .lss 24 32, .g (.keep [0, 3, 4, 5, 33])]) (.cond (.tmp 33) (.skip) (.exit 2))) (.seq (.block 3 (.seq (.reg 1 [zm 0 36 0, zc 1 37 36, zf 2 38 37 20, zl 3 39 1 38, zm 4 40 3, zx 5 41 1 39 40, zl 6 42 1 41, zm 7 43 5, zx 8 44 2 42 43, zL 9 45 2 44, .o 10 (.alloc (some 6) 0 2 [.a (.slice none 0 0), .a (.string ⟨#[]⟩)]), .o 11 (.store [] 2 (.tmp 6) (.tmp 45)), .g (.keep [0, 3, 4, 5, 6])]) (.seq (.reg 0 [zf 0 46 6 1, zl 1 47 1 46, zm 2 48 5, zm 3 49 4, za 4 50 .sub 48 49, .o 5 (.call (some 51) hallmarkroom_word.id [(.tmp 50)]), za 6 52 .neq 47 51, zm 7 53 52, yf 8 53 false 54 6 0, yl 9 53 false 55 1 54, yn 10 53 false 56 55, yd 11 53 false 57 .neq 56 0, zp 12 58 53 true 57, .g (.keep [0, 3, 4, 5, 58])]) (.cond (.tmp 58) (.seq (.reg 0 [zb 0 2 false, .g (.keep [2])]) (.ret)) (.skip))))) (.reg 0 [zm 0 34 5, zd 1 35 .add 34 1, zm 2 5 35, .g (.keep [0, 3, 4, 5])]))
def hallmarkroom_Room_holdRows.b0 : C := .seq (.seq (.reg 0 [zm 0 7 3, zm 1 8 0, zc 2 9 8, zf 3 10 9 20, zl 4 11 1 10, zn 5 12 11, za 6 13 .lss 7 12, .g (.keep [0, 3, 13])]) (.cond (.tmp 13) (.skip) (.exit 0))) (.seq (.block 1 (.seq (.reg 0 [zm 0 16 0, zc 1 17 16, zf 2 18 17 21, zl 3 19 1 18, zm 4 20 3, zx 5 21 1 19 20, zl 6 22 1 21, zm 7 4 22, .g (.keep [0, 3, 4])]) (.seq (.reg 0 [zm 0 23 4, zm 1 5 23, .g (.keep [0, 3, 4, 5])]) (.block 2 (.loop hallmarkroom_Room_holdRows.b1))))) (.reg 0 [zm 0 14 3, zd 1 15 .add 14 1, zm 2 3 15, .g (.keep [0, 3])]))
def hallmarkroom_Room_holdRows.ir : C := .seq (.reg 0 [zb 0 2 false, .g (.keep [0])]) (.seq (.seq (.reg 0 [zk 0 3 0, .g (.keep [0, 3])]) (.block 0 (.loop hallmarkroom_Room_holdRows.b0))) (.seq (.reg 0 [zb 0 2 true, .g (.keep [2])]) (.ret)))
def hallmarkroom_Room_holdRows.rs : List Rs := [.sl 2]
theorem hallmarkroom_Room_holdRows.ok : isFn Tryz.prog hallmarkroom_Room_holdRows.id 59 hallmarkroom_Room_holdRows.ann hallmarkroom_Room_holdRows.ir hallmarkroom_Room_holdRows.rs := ⟨Tryz.f57, _, Tryz.func57, rfl, rfl, by kernel_rfl, by kernel_rfl⟩
-- (*hallmark/hallmarkroom.Room).holdSteps
def hallmarkroom_Room_holdSteps.ann : List (Nat × RA) := [(0, rk [0]), (1, rk [0, 3]), (2, rk [0, 3, 13]), (3, rk [0, 3]), (4, rk [0, 3, 4]), (5, rk [0, 3, 4, 5]), (6, rk [0, 3, 4, 5, 33]), (7, rk [0, 3, 4, 5]), (8, rk [0, 3, 4, 5, 6]), (9, ro [0, 3, 4, 5, 57] [0, 1, 2, 3, 4, 5, 6, 7, 8, 9, 10, 11]), (10, rk [2]), (11, rk [2])]
def hallmarkroom_Room_holdSteps.b1 : C := .seq (.seq (.reg 0 [zm 0 24 5, zm 1 25 0, zc 2 26 25, zf 3 27 26 22, zl 4 28 1 27, zm 5 29 3, zx 6 30 1 28 29, zl 7 31 1 30, zn 8 32 31, za 9 33 .lss 24 32, .g (.keep [0, 3, 4, 5, 33])]) (.cond (.tmp 33) (.skip) (.exit 2))) (.seq (.block 3 (.seq (.reg 1 [zm 0 36 0, zc 1 37 36, zf 2 38 37 22, zl 3 39 1 38, zm 4 40 3, zx 5 41 1 39 40, zl 6 42 1 41, zm 7 43 5, zx 8 44 10 42 43, zL 9 45 10 44, .o 10 (.alloc (some 6) 0 10 [.a (.int .i64 0), .a (.string ⟨#[]⟩), .a (.slice none 0 0), .a (.slice none 0 0), .a (.string ⟨#[]⟩), .a (.slice none 0 0), .a (.slice none 0 0), .a (.int .i64 0), .a (.string ⟨#[]⟩), .a (.string ⟨#[]⟩)]), .o 11 (.store [] 10 (.tmp 6) (.tmp 45)), .g (.keep [0, 3, 4, 5, 6])]) (.seq (.reg 0 [zf 0 46 6 7, zl 1 47 1 46, zm 2 48 5, zm 3 49 4, za 4 50 .sub 48 49, .o 5 (.call (some 51) hallmarkroom_lot.id [(.tmp 50)]), za 6 52 .neq 47 51, zm 7 53 52, yf 8 53 false 54 6 0, yl 9 53 false 55 1 54, yd 10 53 false 56 .neq 55 0, zp 11 57 53 true 56, .g (.keep [0, 3, 4, 5, 57])]) (.cond (.tmp 57) (.seq (.reg 0 [zb 0 2 false, .g (.keep [2])]) (.ret)) (.skip))))) (.reg 0 [zm 0 34 5, zd 1 35 .add 34 1, zm 2 5 35, .g (.keep [0, 3, 4, 5])]))
def hallmarkroom_Room_holdSteps.b0 : C := .seq (.seq (.reg 0 [zm 0 7 3, zm 1 8 0, zc 2 9 8, zf 3 10 9 22, zl 4 11 1 10, zn 5 12 11, za 6 13 .lss 7 12, .g (.keep [0, 3, 13])]) (.cond (.tmp 13) (.skip) (.exit 0))) (.seq (.block 1 (.seq (.reg 0 [zm 0 16 0, zc 1 17 16, zf 2 18 17 23, zl 3 19 1 18, zm 4 20 3, zx 5 21 1 19 20, zl 6 22 1 21, zm 7 4 22, .g (.keep [0, 3, 4])]) (.seq (.reg 0 [zm 0 23 4, zm 1 5 23, .g (.keep [0, 3, 4, 5])]) (.block 2 (.loop hallmarkroom_Room_holdSteps.b1))))) (.reg 0 [zm 0 14 3, zd 1 15 .add 14 1, zm 2 3 15, .g (.keep [0, 3])]))
def hallmarkroom_Room_holdSteps.ir : C := .seq (.reg 0 [zb 0 2 false, .g (.keep [0])]) (.seq (.seq (.reg 0 [zk 0 3 0, .g (.keep [0, 3])]) (.block 0 (.loop hallmarkroom_Room_holdSteps.b0))) (.seq (.reg 0 [zb 0 2 true, .g (.keep [2])]) (.ret)))
def hallmarkroom_Room_holdSteps.rs : List Rs := [.sl 2]
theorem hallmarkroom_Room_holdSteps.ok : isFn Tryz.prog hallmarkroom_Room_holdSteps.id 58 hallmarkroom_Room_holdSteps.ann hallmarkroom_Room_holdSteps.ir hallmarkroom_Room_holdSteps.rs := ⟨Tryz.f58, _, Tryz.func58, rfl, rfl, by kernel_rfl, by kernel_rfl⟩
-- (*hallmark/hallmarkroom.Room).holdCauses
def hallmarkroom_Room_holdCauses.ann : List (Nat × RA) := [(0, rk [0]), (1, rk [0, 3]), (2, rk [0, 3, 13]), (3, rk [0, 3]), (4, rk [0, 3, 4]), (5, rk [0, 3, 4, 5]), (6, rk [0, 3, 4, 5, 33]), (7, rk [0, 3, 4, 5]), (8, rk [0, 3, 4, 5, 6]), (9, ro [0, 3, 4, 5, 59] [0, 1, 2, 3, 4, 5, 6, 7, 8, 9, 10, 11, 12, 13]), (10, rk [2]), (11, rk [2])]
def hallmarkroom_Room_holdCauses.b1 : C := .seq (.seq (.reg 0 [zm 0 24 5, zm 1 25 0, zc 2 26 25, zf 3 27 26 24, zl 4 28 1 27, zm 5 29 3, zx 6 30 1 28 29, zl 7 31 1 30, zn 8 32 31, za 9 33 .lss 24 32, .g (.keep [0, 3, 4, 5, 33])]) (.cond (.tmp 33) (.skip) (.exit 2))) (.seq (.block 3 (.seq (.reg 1 [zm 0 36 0, zc 1 37 36, zf 2 38 37 24, zl 3 39 1 38, zm 4 40 3, zx 5 41 1 39 40, zl 6 42 1 41, zm 7 43 5, zx 8 44 7 42 43, zL 9 45 7 44, .o 10 (.alloc (some 6) 0 7 [.a (.int .i64 0), .a (.int .i64 0), .a (.int .i64 0), .a (.int .i64 0), .a (.int .i64 0), .a (.int .i64 0), .a (.slice none 0 0)]), .o 11 (.store [] 7 (.tmp 6) (.tmp 45)), .g (.keep [0, 3, 4, 5, 6])]) (.seq (.reg 0 [zf 0 46 6 0, zl 1 47 1 46, zm 2 48 5, zm 3 49 4, za 4 50 .sub 48 49, .o 5 (.call (some 51) hallmarkroom_lot.id [(.tmp 50)]), za 6 52 .neq 47 51, zm 7 53 52, yf 8 53 false 54 6 4, yf 9 53 false 55 54 2, yl 10 53 false 56 1 55, yn 11 53 false 57 56, yd 12 53 false 58 .neq 57 0, zp 13 59 53 true 58, .g (.keep [0, 3, 4, 5, 59])]) (.cond (.tmp 59) (.seq (.reg 0 [zb 0 2 false, .g (.keep [2])]) (.ret)) (.skip))))) (.reg 0 [zm 0 34 5, zd 1 35 .add 34 1, zm 2 5 35, .g (.keep [0, 3, 4, 5])]))
def hallmarkroom_Room_holdCauses.b0 : C := .seq (.seq (.reg 0 [zm 0 7 3, zm 1 8 0, zc 2 9 8, zf 3 10 9 24, zl 4 11 1 10, zn 5 12 11, za 6 13 .lss 7 12, .g (.keep [0, 3, 13])]) (.cond (.tmp 13) (.skip) (.exit 0))) (.seq (.block 1 (.seq (.reg 0 [zm 0 16 0, zc 1 17 16, zf 2 18 17 25, zl 3 19 1 18, zm 4 20 3, zx 5 21 1 19 20, zl 6 22 1 21, zm 7 4 22, .g (.keep [0, 3, 4])]) (.seq (.reg 0 [zm 0 23 4, zm 1 5 23, .g (.keep [0, 3, 4, 5])]) (.block 2 (.loop hallmarkroom_Room_holdCauses.b1))))) (.reg 0 [zm 0 14 3, zd 1 15 .add 14 1, zm 2 3 15, .g (.keep [0, 3])]))
def hallmarkroom_Room_holdCauses.ir : C := .seq (.reg 0 [zb 0 2 false, .g (.keep [0])]) (.seq (.seq (.reg 0 [zk 0 3 0, .g (.keep [0, 3])]) (.block 0 (.loop hallmarkroom_Room_holdCauses.b0))) (.seq (.reg 0 [zb 0 2 true, .g (.keep [2])]) (.ret)))
def hallmarkroom_Room_holdCauses.rs : List Rs := [.sl 2]
theorem hallmarkroom_Room_holdCauses.ok : isFn Tryz.prog hallmarkroom_Room_holdCauses.id 60 hallmarkroom_Room_holdCauses.ann hallmarkroom_Room_holdCauses.ir hallmarkroom_Room_holdCauses.rs := ⟨Tryz.f59, _, Tryz.func59, rfl, rfl, by kernel_rfl, by kernel_rfl⟩
-- (*hallmark/hallmarkroom.Room).holdActs
def hallmarkroom_Room_holdActs.ann : List (Nat × RA) := [(0, rk [0]), (1, rk [0, 3]), (2, rk [0, 3, 13]), (3, rk [0, 3]), (4, rk [0, 3, 4]), (5, rk [0, 3, 4, 5]), (6, rk [0, 3, 4, 5, 33]), (7, rk [0, 3, 4, 5]), (8, rk [0, 3, 4, 5, 6]), (9, ro [0, 3, 4, 5, 58] [0, 1, 2, 3, 4, 5, 6, 7, 8, 9, 10, 11, 12]), (10, rk [2]), (11, rk [2])]
def hallmarkroom_Room_holdActs.b1 : C := .seq (.seq (.reg 0 [zm 0 24 5, zm 1 25 0, zc 2 26 25, zf 3 27 26 26, zl 4 28 1 27, zm 5 29 3, zx 6 30 1 28 29, zl 7 31 1 30, zn 8 32 31, za 9 33 .lss 24 32, .g (.keep [0, 3, 4, 5, 33])]) (.cond (.tmp 33) (.skip) (.exit 2))) (.seq (.block 3 (.seq (.reg 1 [zm 0 36 0, zc 1 37 36, zf 2 38 37 26, zl 3 39 1 38, zm 4 40 3, zx 5 41 1 39 40, zl 6 42 1 41, zm 7 43 5, zx 8 44 4 42 43, zL 9 45 4 44, .o 10 (.alloc (some 6) 0 4 [.a (.int .i64 0), .a (.int .i64 0), .a (.string ⟨#[]⟩), .a (.slice none 0 0)]), .o 11 (.store [] 4 (.tmp 6) (.tmp 45)), .g (.keep [0, 3, 4, 5, 6])]) (.seq (.reg 0 [zf 0 46 6 0, zl 1 47 1 46, zm 2 48 5, zm 3 49 4, za 4 50 .sub 48 49, .o 5 (.call (some 51) hallmarkroom_lot.id [(.tmp 50)]), za 6 52 .neq 47 51, zm 7 53 52, yf 8 53 false 54 6 3, yl 9 53 false 55 1 54, yn 10 53 false 56 55, yd 11 53 false 57 .neq 56 0, zp 12 58 53 true 57, .g (.keep [0, 3, 4, 5, 58])]) (.cond (.tmp 58) (.seq (.reg 0 [zb 0 2 false, .g (.keep [2])]) (.ret)) (.skip))))) (.reg 0 [zm 0 34 5, zd 1 35 .add 34 1, zm 2 5 35, .g (.keep [0, 3, 4, 5])]))
def hallmarkroom_Room_holdActs.b0 : C := .seq (.seq (.reg 0 [zm 0 7 3, zm 1 8 0, zc 2 9 8, zf 3 10 9 26, zl 4 11 1 10, zn 5 12 11, za 6 13 .lss 7 12, .g (.keep [0, 3, 13])]) (.cond (.tmp 13) (.skip) (.exit 0))) (.seq (.block 1 (.seq (.reg 0 [zm 0 16 0, zc 1 17 16, zf 2 18 17 27, zl 3 19 1 18, zm 4 20 3, zx 5 21 1 19 20, zl 6 22 1 21, zm 7 4 22, .g (.keep [0, 3, 4])]) (.seq (.reg 0 [zm 0 23 4, zm 1 5 23, .g (.keep [0, 3, 4, 5])]) (.block 2 (.loop hallmarkroom_Room_holdActs.b1))))) (.reg 0 [zm 0 14 3, zd 1 15 .add 14 1, zm 2 3 15, .g (.keep [0, 3])]))
def hallmarkroom_Room_holdActs.ir : C := .seq (.reg 0 [zb 0 2 false, .g (.keep [0])]) (.seq (.seq (.reg 0 [zk 0 3 0, .g (.keep [0, 3])]) (.block 0 (.loop hallmarkroom_Room_holdActs.b0))) (.seq (.reg 0 [zb 0 2 true, .g (.keep [2])]) (.ret)))
def hallmarkroom_Room_holdActs.rs : List Rs := [.sl 2]
theorem hallmarkroom_Room_holdActs.ok : isFn Tryz.prog hallmarkroom_Room_holdActs.id 59 hallmarkroom_Room_holdActs.ann hallmarkroom_Room_holdActs.ir hallmarkroom_Room_holdActs.rs := ⟨Tryz.f60, _, Tryz.func60, rfl, rfl, by kernel_rfl, by kernel_rfl⟩
-- (*hallmark/hallmarkroom.Room).Vars
-- (*hallmark/hallmarkroom.Room).Cons
-- hallmark/hallmarkref4.vars
-- hallmark/hallmarkref4.many
def hallmarkref4_many.ann : List (Nat × RA) := [(0, rk [0]), (1, rk [2])]
def hallmarkref4_many.ir : C := .seq (.reg 0 [zb 0 2 false, .g (.keep [0])]) (.seq (.reg 0 [zm 0 3 0, zd 1 4 .lss 3 1, zm 2 5 4, ym 3 5 false 6 0, yd 4 5 false 7 .gtr 6 64, zp 5 8 5 true 7, zm 6 2 8, .g (.keep [2])]) (.ret))
def hallmarkref4_many.rs : List Rs := [.sl 2]
theorem hallmarkref4_many.ok : isFn Tryz.prog hallmarkref4_many.id 9 hallmarkref4_many.ann hallmarkref4_many.ir hallmarkref4_many.rs := ⟨Tryz.f64, _, Tryz.func64, rfl, rfl, by kernel_rfl, by kernel_rfl⟩
-- hallmark/hallmarkref4.terms
def hallmarkref4_terms.ann : List (Nat × RA) := [(0, rk [0, 1]), (1, rk [0, 1, 5]), (2, rk [0, 1, 5, 10]), (3, rk [0, 1, 5]), (4, rk [0, 1, 5, 27]), (5, rk [4]), (6, rk [0, 6]), (7, rk [0, 6, 31]), (8, rk [0, 6]), (9, rk [0, 6, 40]), (10, rk [4]), (11, rk [4])]
def hallmarkref4_terms.b1 : C := .seq (.seq (.reg 0 [zm 0 28 6, zm 1 29 0, zn 2 30 29, za 3 31 .lss 28 30, .g (.keep [0, 6, 31])]) (.cond (.tmp 31) (.skip) (.exit 2))) (.seq (.block 3 (.seq (.reg 0 [zm 0 34 0, zm 1 35 6, zx 2 36 2 34 35, zf 3 37 36 0, zl 4 38 1 37, .o 5 (.call (some 39) hallmarkref4_Coef.id [(.tmp 38)]), zq 6 40 39, .g (.keep [0, 6, 40])]) (.cond (.tmp 40) (.seq (.reg 0 [zk 0 4 45, .g (.keep [4])]) (.ret)) (.skip)))) (.reg 0 [zm 0 32 6, zd 1 33 .add 32 1, zm 2 6 33, .g (.keep [0, 6])]))
def hallmarkref4_terms.b0 : C := .seq (.seq (.reg 0 [zm 0 7 5, zm 1 8 0, zn 2 9 8, za 3 10 .lss 7 9, .g (.keep [0, 1, 5, 10])]) (.cond (.tmp 10) (.skip) (.exit 0))) (.seq (.block 1 (.seq (.reg 0 [zm 0 13 0, zm 1 14 5, zx 2 15 2 13 14, zf 3 16 15 1, zl 4 17 1 16, zd 5 18 .lss 17 0, zm 6 19 18, ym 7 19 false 20 0, ym 8 19 false 21 5, yx 9 19 false 22 2 20 21, yf 10 19 false 23 22 1, yl 11 19 false 24 1 23, ym 12 19 false 25 1, ya 13 19 false 26 .geq 24 25, zp 14 27 19 true 26, .g (.keep [0, 1, 5, 27])]) (.cond (.tmp 27) (.seq (.reg 0 [zk 0 4 44, .g (.keep [4])]) (.ret)) (.skip)))) (.reg 0 [zm 0 11 5, zd 1 12 .add 11 1, zm 2 5 12, .g (.keep [0, 1, 5])]))
def hallmarkref4_terms.ir : C := .seq (.reg 0 [zk 0 4 0, .g (.keep [0, 1])]) (.seq (.seq (.reg 0 [zk 0 5 0, .g (.keep [0, 1, 5])]) (.block 0 (.loop hallmarkref4_terms.b0))) (.seq (.seq (.reg 0 [zk 0 6 0, .g (.keep [0, 6])]) (.block 2 (.loop hallmarkref4_terms.b1))) (.seq (.reg 0 [zk 0 4 0, .g (.keep [4])]) (.ret))))
def hallmarkref4_terms.rs : List Rs := [.sl 4]
theorem hallmarkref4_terms.ok : isFn Tryz.prog hallmarkref4_terms.id 41 hallmarkref4_terms.ann hallmarkref4_terms.ir hallmarkref4_terms.rs := ⟨Tryz.f65, _, Tryz.func65, rfl, rfl, by kernel_rfl, by kernel_rfl⟩
-- hallmark/hallmarkref4.Right
-- hallmark/model.variable
-- hallmark/model.goal
-- hallmark/model.right
-- hallmark/model.ends
-- hallmark/hallmarkref4.bound
-- slices.ContainsFunc[[]hallmark/api.Con,hallmark/api.Con]
-- hallmark/model.Solution$1
-- hallmark/model.sum
def model_sum.ann : List (Nat × RA) := [(0, rk [0, 1]), (1, rk [0, 1, 5]), (2, rk [1, 5, 8, 9, 10]), (3, rk [1, 5, 8, 9, 10, 11]), (4, rk [1, 5, 7, 8, 9, 10]), (5, ro [1, 5, 8, 9, 10] [0, 1, 2, 3, 4, 5, 6, 7, 8, 9]), (6, rk [1, 5, 8, 9, 10]), (7, rk [4])]
def model_sum.b0 : C := .seq (.reg 0 [za 0 11 .lss 10 9, .g (.keep [1, 5, 8, 9, 10, 11])]) (.seq (.cond (.tmp 11) (.skip) (.exit 0)) (.seq (.block 1 (.seq (.reg 1 [zx 0 12 2 8 10, zL 1 13 2 12, .o 2 (.alloc (some 7) 0 2 [.a (.int .i64 0), .a (.int .i64 0)]), .o 3 (.store [] 2 (.tmp 7) (.tmp 13)), .g (.keep [1, 5, 7, 8, 9, 10])]) (.reg 0 [zm 0 14 5, zf 1 15 7 0, zl 2 16 1 15, zm 3 17 1, zf 4 18 7 1, zl 5 19 1 18, .o 6 (.callv (some 20) (.tmp 17) [(.tmp 19)]), za 7 21 .mul 16 20, za 8 22 .add 14 21, zm 9 5 22, .g (.keep [1, 5, 8, 9, 10])]))) (.reg 0 [zd 0 23 .add 10 1, zm 1 10 23, .g (.keep [1, 5, 8, 9, 10])])))
def model_sum.ir : C := .seq (.reg 0 [zk 0 4 0, .g (.keep [0, 1])]) (.seq (.reg 0 [zk 0 5 0, .g (.keep [0, 1, 5])]) (.seq (.seq (.reg 0 [zm 0 8 0, zn 1 9 8, zk 2 10 0, .g (.keep [1, 5, 8, 9, 10])]) (.block 0 (.loop model_sum.b0))) (.seq (.reg 0 [zm 0 24 5, zm 1 4 24, .g (.keep [4])]) (.ret))))
def model_sum.rs : List Rs := [.sl 4]
theorem model_sum.ok : isFn Tryz.prog model_sum.id 25 model_sum.ann model_sum.ir model_sum.rs := ⟨Tryz.f74, _, Tryz.func74, rfl, rfl, by kernel_rfl, by kernel_rfl⟩
-- hallmark/model.Worth$1
-- (*hallmark/hallmarkroom.Count).Text
def hallmarkroom_Count_Text.ann : List (Nat × RA) := [(0, rp [0, 1] [(1, [1000000])]), (1, rp [] [(3, [1000000])])]
def hallmarkroom_Count_Text.ir : C := .seq (.reg 0 [zm 0 4 0, .o 1 (.callm (some 5) (.func hallmarkroom_Count_Add.id) [(.tmp 4), (.const (.int .i64 1))]), .g (.keep [0, 1])]) (.reg 0 [zm 0 6 0, zm 1 7 1, .o 2 (.lt (some 8) (.lenStr (.tmp 7))), .o 3 (.callm (some 9) (.func hallmarkroom_Count_Add.id) [(.tmp 6), (.tmp 8)]), .g (.keep [])])
def hallmarkroom_Count_Text.rs : List Rs := []
theorem hallmarkroom_Count_Text.ok : isFn Tryz.prog hallmarkroom_Count_Text.id 10 hallmarkroom_Count_Text.ann hallmarkroom_Count_Text.ir hallmarkroom_Count_Text.rs := ⟨Tryz.f76, _, Tryz.func76, rfl, rfl, by kernel_rfl, by kernel_rfl⟩
-- (*hallmark/hallmarkroom.Count).Con
def hallmarkroom_Count_Con.ann : List (Nat × RA) := [(0, rk [0, 3]), (1, rp [0, 3] [(1, [1000000])]), (2, rp [0, 3] [(4, [1000000])]), (3, rp [0, 3] [(4, [1000000])]), (4, rp [0, 3] [(4, [1000000])]), (5, rp [] [(3, [1000000])])]
def hallmarkroom_Count_Con.ir : C := .seq (.reg 1 [.o 0 (.box (some 3) 0 10 (.tmp 1)), .g (.keep [0, 3])]) (.seq (.reg 0 [zm 0 4 0, .o 1 (.callm (some 5) (.func hallmarkroom_Count_Add.id) [(.tmp 4), (.const (.int .i64 1))]), .g (.keep [0, 3])]) (.seq (.reg 0 [zm 0 6 0, zf 1 7 3 2, zl 2 8 1 7, zn 3 9 8, .o 4 (.callm (some 10) (.func hallmarkroom_Count_Add.id) [(.tmp 6), (.tmp 9)]), .g (.keep [0, 3])]) (.seq (.reg 0 [zm 0 11 0, zf 1 12 3 7, zl 2 13 1 12, zn 3 14 13, .o 4 (.callm (some 15) (.func hallmarkroom_Count_Add.id) [(.tmp 11), (.tmp 14)]), .g (.keep [0, 3])]) (.seq (.reg 0 [zm 0 16 0, zf 1 17 3 8, zl 2 18 1 17, zn 3 19 18, .o 4 (.callm (some 20) (.func hallmarkroom_Count_Add.id) [(.tmp 16), (.tmp 19)]), .g (.keep [0, 3])]) (.reg 0 [zm 0 21 0, zf 1 22 3 9, zl 2 23 1 22, .o 3 (.callm (some 24) (.func hallmarkroom_Count_Lists.id) [(.tmp 21), (.tmp 23)]), .g (.keep [])])))))
def hallmarkroom_Count_Con.rs : List Rs := []
theorem hallmarkroom_Count_Con.ok : isFn Tryz.prog hallmarkroom_Count_Con.id 25 hallmarkroom_Count_Con.ann hallmarkroom_Count_Con.ir hallmarkroom_Count_Con.rs := ⟨Tryz.f77, _, Tryz.func77, rfl, rfl, by kernel_rfl, by kernel_rfl⟩
-- (*hallmark/hallmarkroom.Room).layTerms
def hallmarkroom_Room_layTerms.ann : List (Nat × RA) := [(0, rk [0, 1, 2]), (1, rp [0, 1, 2, 7] [(0, [1000004])]), (2, { gs := [(0, [.wk])], keep := some [0, 1, 2, 7] }), (3, rk [0, 1, 2, 7, 8]), (4, rk [0, 1, 2, 7, 8, 15]), (5, rk [0, 1, 2, 7, 8]), (6, rp [0, 1, 2, 7, 8] [(4, [1000004])]), (7, { gs := [(0, [.frz 7])], keep := some [0, 1, 7], aps := [(6, [1000004])] }), (8, rp [1, 7] [(7, [1000004])]), (9, rk [6])]
def hallmarkroom_Room_layTerms.b0 : C := .seq (.seq (.reg 0 [zm 0 13 8, zm 1 14 2, za 2 15 .lss 13 14, .g (.keep [0, 1, 2, 7, 8, 15])]) (.cond (.tmp 15) (.skip) (.exit 0))) (.seq (.block 1 (.reg 2 [zm 0 18 7, zm 1 19 8, .o 2 (.call (some 20) hallmarkroom_lot.id [(.tmp 19)]), .o 3 (.lt (some 21) (.build [.a (.int .i64 0), .a (.int .i64 0)] [(0, 1, (.tmp 20))])), .o 4 (.bsv (some 22) 2 1 [.a (.int .i64 0), .a (.int .i64 0)] [(0, (.tmp 21))]), .o 5 (.app [] (some 23) 1 2 16 (.tmp 18) (.tmp 22)), zm 6 7 23, .g (.keep [0, 1, 2, 7, 8])])) (.reg 0 [zm 0 16 8, zd 1 17 .add 16 1, zm 2 8 17, .g (.keep [0, 1, 2, 7, 8])]))
def hallmarkroom_Room_layTerms.ir : C := .seq (.reg 0 [.o 0 (.lt (some 6) (.mov (.const (.slice none 0 0)))), .g (.keep [0, 1, 2])]) (.seq (.reg 1 [.o 0 (.bsv (some 9) 2 0 [.a (.int .i64 0), .a (.int .i64 0)] []), zm 1 7 9, .g (.keep [0, 1, 2, 7])]) (.seq (.reg 1 [.g (.wk), zm 0 10 7, zm 1 11 1, .o 2 (.app [] (some 12) 0 2 16 (.tmp 10) (.tmp 11)), zm 3 7 12, .g (.keep [0, 1, 2, 7])]) (.seq (.seq (.reg 0 [zk 0 8 0, .g (.keep [0, 1, 2, 7, 8])]) (.block 0 (.loop hallmarkroom_Room_layTerms.b0))) (.seq (.reg 2 [.g (.frz 7), zm 0 24 0, zm 1 25 0, zc 2 26 25, zf 3 27 26 4, zl 4 28 1 27, zm 5 29 7, .o 6 (.bsv (some 30) 1 1 [.a (.slice none 0 0)] [(0, (.tmp 29))]), .o 7 (.app [] (some 31) 1 1 24 (.tmp 28) (.tmp 30)), zc 8 32 24, zf 9 33 32 4, .o 10 (.store [] 1 (.tmp 33) (.tmp 31)), .g (.keep [0, 1, 7])]) (.seq (.reg 2 [zm 0 34 0, zm 1 35 0, zc 2 36 35, zf 3 37 36 5, zl 4 38 1 37, zm 5 39 1, zn 6 40 39, .o 7 (.bsv (some 41) 1 1 [.a (.int .i64 0)] [(0, (.tmp 40))]), .o 8 (.app [] (some 42) 1 1 8 (.tmp 38) (.tmp 41)), zc 9 43 34, zf 10 44 43 5, .o 11 (.store [] 1 (.tmp 44) (.tmp 42)), .g (.keep [1, 7])]) (.seq (.reg 0 [zm 0 45 7, zm 1 46 1, zn 2 47 46, zm 3 48 7, zn 4 49 48, .o 5 (.lt (some 50) (.slM 2 (.tmp 45) (.tmp 47) (.tmp 49))), zm 6 6 50, .g (.keep [6])]) (.ret)))))))
def hallmarkroom_Room_layTerms.rs : List Rs := [.sl 6]
theorem hallmarkroom_Room_layTerms.ok : isFn Tryz.prog hallmarkroom_Room_layTerms.id 51 hallmarkroom_Room_layTerms.ann hallmarkroom_Room_layTerms.ir hallmarkroom_Room_layTerms.rs := ⟨Tryz.f78, _, Tryz.func78, rfl, rfl, by kernel_rfl, by kernel_rfl⟩
-- (*hallmark/hallmarkroom.Room).layLists
def hallmarkroom_Room_layLists.ann : List (Nat × RA) := [(0, rk [0, 1, 2]), (1, rp [0, 1, 2, 7] [(0, [1000004])]), (2, { gs := [(0, [.wk])], keep := some [0, 1, 2, 7, 8] }), (3, rk [0, 1, 2, 7, 8, 14]), (4, rk [0, 1, 2, 7, 8]), (5, rp [0, 1, 2, 7, 8] [(6, [1000000]), (7, [1000004])]), (6, rk [0, 1, 2, 7, 9]), (7, rk [0, 1, 2, 7, 9, 28]), (8, rk [0, 1, 2, 7, 9]), (9, rp [0, 1, 2, 7, 9] [(3, [1000004]), (4, [1000004])]), (10, { gs := [(0, [.frz 7])], keep := some [0, 1, 7], aps := [(6, [1000004])] }), (11, rp [1, 7] [(7, [1000004])]), (12, rk [6])]
def hallmarkroom_Room_layLists.b1 : C := .seq (.seq (.reg 0 [zm 0 26 9, zm 1 27 2, za 2 28 .lss 26 27, .g (.keep [0, 1, 2, 7, 9, 28])]) (.cond (.tmp 28) (.skip) (.exit 2))) (.seq (.block 3 (.reg 3 [zm 0 31 7, zm 1 32 9, .o 2 (.call (some 33) hallmarkroom_lot.id [(.tmp 32)]), .o 3 (.bsv (some 34) 1 1 [.a (.int .i64 0)] [(0, (.tmp 33))]), .o 4 (.bsv (some 35) 1 1 [.a (.slice none 0 0)] [(0, (.tmp 34))]), .o 5 (.app [] (some 36) 2 1 24 (.tmp 31) (.tmp 35)), zm 6 7 36, .g (.keep [0, 1, 2, 7, 9])])) (.reg 0 [zm 0 29 9, zd 1 30 .add 29 1, zm 2 9 30, .g (.keep [0, 1, 2, 7, 9])]))
def hallmarkroom_Room_layLists.b0 : C := .seq (.seq (.reg 0 [zm 0 11 8, zm 1 12 1, zn 2 13 12, za 3 14 .lss 11 13, .g (.keep [0, 1, 2, 7, 8, 14])]) (.cond (.tmp 14) (.skip) (.exit 0))) (.seq (.block 1 (.reg 2 [zm 0 17 7, zm 1 18 0, zm 2 19 1, zm 3 20 8, zx 4 21 1 19 20, zl 5 22 1 21, .o 6 (.callm (some 23) (.func hallmarkroom_Room_layInts.id) [(.tmp 18), (.tmp 22), (.const (.int .i64 4))]), .o 7 (.bsv (some 24) 1 1 [.a (.slice none 0 0)] [(0, (.tmp 23))]), .o 8 (.app [] (some 25) 1 1 24 (.tmp 17) (.tmp 24)), zm 9 7 25, .g (.keep [0, 1, 2, 7, 8])])) (.reg 0 [zm 0 15 8, zd 1 16 .add 15 1, zm 2 8 16, .g (.keep [0, 1, 2, 7, 8])]))
def hallmarkroom_Room_layLists.ir : C := .seq (.reg 0 [.o 0 (.lt (some 6) (.mov (.const (.slice none 0 0)))), .g (.keep [0, 1, 2])]) (.seq (.reg 1 [.o 0 (.bsv (some 10) 1 0 [.a (.slice none 0 0)] []), zm 1 7 10, .g (.keep [0, 1, 2, 7])]) (.seq (.seq (.reg 0 [.g (.wk), zk 0 8 0, .g (.keep [0, 1, 2, 7, 8])]) (.block 0 (.loop hallmarkroom_Room_layLists.b0))) (.seq (.seq (.reg 0 [zk 0 9 0, .g (.keep [0, 1, 2, 7, 9])]) (.block 2 (.loop hallmarkroom_Room_layLists.b1))) (.seq (.reg 2 [.g (.frz 7), zm 0 37 0, zm 1 38 0, zc 2 39 38, zf 3 40 39 16, zl 4 41 1 40, zm 5 42 7, .o 6 (.bsv (some 43) 1 1 [.a (.slice none 0 0)] [(0, (.tmp 42))]), .o 7 (.app [] (some 44) 1 1 24 (.tmp 41) (.tmp 43)), zc 8 45 37, zf 9 46 45 16, .o 10 (.store [] 1 (.tmp 46) (.tmp 44)), .g (.keep [0, 1, 7])]) (.seq (.reg 2 [zm 0 47 0, zm 1 48 0, zc 2 49 48, zf 3 50 49 17, zl 4 51 1 50, zm 5 52 1, zn 6 53 52, .o 7 (.bsv (some 54) 1 1 [.a (.int .i64 0)] [(0, (.tmp 53))]), .o 8 (.app [] (some 55) 1 1 8 (.tmp 51) (.tmp 54)), zc 9 56 47, zf 10 57 56 17, .o 11 (.store [] 1 (.tmp 57) (.tmp 55)), .g (.keep [1, 7])]) (.seq (.reg 0 [zm 0 58 7, zm 1 59 1, zn 2 60 59, zm 3 61 7, zn 4 62 61, .o 5 (.lt (some 63) (.slM 1 (.tmp 58) (.tmp 60) (.tmp 62))), zm 6 6 63, .g (.keep [6])]) (.ret)))))))
def hallmarkroom_Room_layLists.rs : List Rs := [.sl 6]
theorem hallmarkroom_Room_layLists.ok : isFn Tryz.prog hallmarkroom_Room_layLists.id 64 hallmarkroom_Room_layLists.ann hallmarkroom_Room_layLists.ir hallmarkroom_Room_layLists.rs := ⟨Tryz.f79, _, Tryz.func79, rfl, rfl, by kernel_rfl, by kernel_rfl⟩
-- hallmark/hallmarkroom.lot
def hallmarkroom_lot.ann : List (Nat × RA) := [(0, rk [0]), (1, rk [5]), (2, rk [2]), (3, rk [2])]
def hallmarkroom_lot.ir : C := .seq (.reg 0 [zk 0 2 0, .g (.keep [0])]) (.seq (.seq (.reg 0 [zm 0 3 0, zd 1 4 .rem 3 2, zd 2 5 .eql 4 0, .g (.keep [5])]) (.cond (.tmp 5) (.seq (.reg 0 [zk 0 2 (-7701), .g (.keep [2])]) (.ret)) (.skip))) (.seq (.reg 0 [zk 0 2 (-7702), .g (.keep [2])]) (.ret)))
def hallmarkroom_lot.rs : List Rs := [.sl 2]
theorem hallmarkroom_lot.ok : isFn Tryz.prog hallmarkroom_lot.id 6 hallmarkroom_lot.ann hallmarkroom_lot.ir hallmarkroom_lot.rs := ⟨Tryz.f80, _, Tryz.func80, rfl, rfl, by kernel_rfl, by kernel_rfl⟩
-- hallmark/hallmarkref4.foreign
def hallmarkref4_foreign.ann : List (Nat × RA) := [(0, rk [1]), (1, rk [1, 3]), (2, rk [1, 3, 4]), (3, rk [1, 3, 4, 5]), (4, rk [1, 3, 4, 5, 32]), (5, rk [2]), (6, rk [2])]
def hallmarkref4_foreign.ir : C := .seq (.reg 1 [.o 0 (.box (some 1) 0 10 (.tmp 0)), zb 1 2 false, .g (.keep [1])]) (.seq (.reg 0 [zf 0 6 1 0, zl 1 7 1 6, zm 2 3 7, .g (.keep [1, 3])]) (.seq (.reg 0 [zm 0 8 3, zd 1 9 .eql 8 1, zm 2 10 9, ym 3 10 false 11 3, yd 4 10 false 12 .eql 11 7, zp 5 13 10 true 12, zm 6 4 13, .g (.keep [1, 3, 4])]) (.seq (.reg 0 [zm 0 14 3, .o 1 (.call (some 15) hallmarkref4_lists.id [(.tmp 14)]), zm 2 5 15, .g (.keep [1, 3, 4, 5])]) (.seq (.seq (.reg 0 [zm 0 16 3, zd 1 17 .neq 16 9, zm 2 18 17, yf 3 18 true 19 1 4, yl 4 18 true 20 1 19, yd 5 18 true 21 .neq 20 0, zr 6 22 18 21 false, zm 7 23 22, ym 8 23 false 24 3, yd 9 23 false 25 .neq 24 8, ym 10 23 false 26 25, yf 11 26 true 27 1 9, yl 12 26 true 28 1 27, yn 13 26 true 29 28, yd 14 26 true 30 .gtr 29 0, yr 15 23 false 31 26 30 false, zp 16 32 23 true 31, .g (.keep [1, 3, 4, 5, 32])]) (.cond (.tmp 32) (.seq (.reg 0 [zb 0 2 true, .g (.keep [2])]) (.ret)) (.skip))) (.seq (.reg 0 [zm 0 33 3, zd 1 34 .neq 33 1, zm 2 35 34, ym 3 35 true 36 3, yd 4 35 true 37 .neq 36 9, zr 5 38 35 37 false, zm 6 39 38, yf 7 39 true 40 1 1, yl 8 39 true 41 1 40, yd 9 39 true 42 .neq 41 0, zr 10 43 39 42 false, zm 11 44 43, ym 12 44 false 45 4, yq 13 44 false 46 45, ym 14 44 false 47 46, yf 15 47 true 48 1 2, yl 16 47 true 49 1 48, yn 17 47 true 50 49, yd 18 47 true 51 .gtr 50 0, yr 19 44 false 52 47 51 false, zp 20 53 44 true 52, zm 21 54 53, ym 22 54 false 55 4, yq 23 54 false 56 55, ym 24 54 false 57 56, ym 25 57 true 58 3, yd 26 57 true 59 .neq 58 2, yr 27 54 false 60 57 59 false, ym 28 54 false 61 60, ym 29 61 true 62 3, yd 30 61 true 63 .neq 62 9, yr 31 54 false 64 61 63 false, ym 32 54 false 65 64, yf 33 65 true 66 1 3, yl 34 65 true 67 1 66, yd 35 65 true 68 .neq 67 0, yr 36 54 false 69 65 68 false, zp 37 70 54 true 69, zm 38 71 70, ym 39 71 false 72 3, yd 40 71 false 73 .neq 72 2, ym 41 71 false 74 73, ym 42 74 true 75 3, yd 43 74 true 76 .neq 75 4, yr 44 71 false 77 74 76 false, ym 45 71 false 78 77, ym 46 78 true 79 3, yd 47 78 true 80 .neq 79 7, yr 48 71 false 81 78 80 false, ym 49 71 false 82 81, yf 50 82 true 83 1 5, yl 51 82 true 84 1 83, yd 52 82 true 85 .neq 84 0, yr 53 71 false 86 82 85 false, zp 54 87 71 true 86, zm 55 88 87, ym 56 88 false 89 4, ym 57 88 false 90 89, ym 58 90 false 91 5, ym 59 90 false 92 91, ym 60 92 true 93 3, yd 61 92 true 94 .neq 93 5, yr 62 90 false 95 92 94 false, ym 63 90 false 96 95, ym 64 96 true 97 3, yd 65 96 true 98 .neq 97 6, yr 66 90 false 99 96 98 false, yp 67 88 false 100 90 true 99, ym 68 88 false 101 100, yf 69 101 true 102 1 6, yl 70 101 true 103 1 102, yd 71 101 true 104 .neq 103 0, yr 72 88 false 105 101 104 false, zp 73 106 88 true 105, zm 74 107 106, ym 75 107 false 108 5, yq 76 107 false 109 108, ym 77 107 false 110 109, yf 78 110 true 111 1 7, yl 79 110 true 112 1 111, yn 80 110 true 113 112, yd 81 110 true 114 .gtr 113 0, yr 82 107 false 115 110 114 false, zp 83 116 107 true 115, zm 84 117 116, ym 85 117 false 118 3, yd 86 117 false 119 .neq 118 4, ym 87 117 false 120 119, yf 88 120 true 121 1 8, yl 89 120 true 122 1 121, yn 90 120 true 123 122, yd 91 120 true 124 .gtr 123 0, yr 92 117 false 125 120 124 false, zp 93 126 117 true 125, zm 94 2 126, .g (.keep [2])]) (.ret))))))
def hallmarkref4_foreign.rs : List Rs := [.sl 2]
theorem hallmarkref4_foreign.ok : isFn Tryz.prog hallmarkref4_foreign.id 127 hallmarkref4_foreign.ann hallmarkref4_foreign.ir hallmarkref4_foreign.rs := ⟨Tryz.f81, _, Tryz.func81, rfl, rfl, by kernel_rfl, by kernel_rfl⟩
-- hallmark/hallmarkref4.lists
def hallmarkref4_lists.ann : List (Nat × RA) := [(0, rk [0]), (1, rk [2])]
def hallmarkref4_lists.ir : C := .seq (.reg 0 [zb 0 2 false, .g (.keep [0])]) (.seq (.reg 0 [zm 0 3 0, zd 1 4 .eql 3 3, zm 2 5 4, ym 3 5 false 6 0, yd 4 5 false 7 .eql 6 5, zp 5 8 5 true 7, zm 6 9 8, ym 7 9 false 10 0, yd 8 9 false 11 .eql 10 6, zp 9 12 9 true 11, zm 10 13 12, ym 11 13 false 14 0, yd 12 13 false 15 .eql 14 8, zp 13 16 13 true 15, zm 14 17 16, ym 15 17 false 18 0, yd 16 17 false 19 .eql 18 9, zp 17 20 17 true 19, zm 18 2 20, .g (.keep [2])]) (.ret))
def hallmarkref4_lists.rs : List Rs := [.sl 2]
theorem hallmarkref4_lists.ok : isFn Tryz.prog hallmarkref4_lists.id 21 hallmarkref4_lists.ann hallmarkref4_lists.ir hallmarkref4_lists.rs := ⟨Tryz.f82, _, Tryz.func82, rfl, rfl, by kernel_rfl, by kernel_rfl⟩
-- hallmark/hallmarkref4.rows
def hallmarkref4_rows.ann : List (Nat × RA) := [(0, rk [1]), (1, rk [1, 13]), (2, rk [2]), (3, rk [1, 3]), (4, rk [1, 3, 18]), (5, rk [1, 3]), (6, ro [1, 3, 30] [0, 1, 2, 3, 4, 5, 6, 7, 8, 9]), (7, rk [2]), (8, rk [2])]
def hallmarkref4_rows.b0 : C := .seq (.seq (.reg 0 [zm 0 14 3, zf 1 15 1 9, zl 2 16 1 15, zn 3 17 16, za 4 18 .lss 14 17, .g (.keep [1, 3, 18])]) (.cond (.tmp 18) (.skip) (.exit 0))) (.seq (.block 1 (.seq (.reg 0 [zf 0 21 1 9, zl 1 22 1 21, zm 2 23 3, zx 3 24 1 22 23, zl 4 25 1 24, zn 5 26 25, zf 6 27 1 7, zl 7 28 1 27, zn 8 29 28, za 9 30 .neq 26 29, .g (.keep [1, 3, 30])]) (.cond (.tmp 30) (.seq (.reg 0 [zb 0 2 false, .g (.keep [2])]) (.ret)) (.skip)))) (.reg 0 [zm 0 19 3, zd 1 20 .add 19 1, zm 2 3 20, .g (.keep [1, 3])]))
def hallmarkref4_rows.ir : C := .seq (.reg 1 [.o 0 (.box (some 1) 0 10 (.tmp 0)), zb 1 2 false, .g (.keep [1])]) (.seq (.seq (.reg 0 [zf 0 4 1 7, zl 1 5 1 4, zn 2 6 5, zd 3 7 .gtr 6 8, zm 4 8 7, yf 5 8 false 9 1 9, yl 6 8 false 10 1 9, yn 7 8 false 11 10, .gd 8 8 false (some 12) (.call (some 12) hallmarkref4_many.id [(.tmp 11)]), zp 9 13 8 true 12, .g (.keep [1, 13])]) (.cond (.tmp 13) (.seq (.reg 0 [zb 0 2 false, .g (.keep [2])]) (.ret)) (.skip))) (.seq (.seq (.reg 0 [zk 0 3 0, .g (.keep [1, 3])]) (.block 0 (.loop hallmarkref4_rows.b0))) (.seq (.reg 0 [zb 0 2 true, .g (.keep [2])]) (.ret))))
def hallmarkref4_rows.rs : List Rs := [.sl 2]
theorem hallmarkref4_rows.ok : isFn Tryz.prog hallmarkref4_rows.id 31 hallmarkref4_rows.ann hallmarkref4_rows.ir hallmarkref4_rows.rs := ⟨Tryz.f83, _, Tryz.func83, rfl, rfl, by kernel_rfl, by kernel_rfl⟩
-- hallmark/hallmarkref4.places
def hallmarkref4_places.ann : List (Nat × RA) := [(0, rk [1, 2]), (1, rk [1, 2, 5]), (2, rk [1, 2, 5, 6]), (3, rk [1, 2, 5, 6, 21]), (4, rk [1, 2, 5, 6]), (5, rk [1, 2, 5, 6]), (6, rk [4])]
def hallmarkref4_places.b0 : C := .seq (.seq (.reg 0 [zm 0 17 6, zf 1 18 2 7, zl 2 19 1 18, zn 3 20 19, za 4 21 .lss 17 20, .g (.keep [1, 2, 5, 6, 21])]) (.cond (.tmp 21) (.skip) (.exit 0))) (.seq (.block 1 (.reg 0 [zm 0 24 5, zm 1 25 24, yf 2 25 true 26 2 7, yl 3 25 true 27 1 26, ym 4 25 true 28 6, yx 5 25 true 29 1 27 28, yl 6 25 true 30 1 29, ym 7 25 true 31 1, .gd 8 25 true (some 32) (.call (some 32) hallmarkref4_place.id [(.tmp 30), (.tmp 31)]), zr 9 33 25 32 false, zm 10 5 33, .g (.keep [1, 2, 5, 6])])) (.reg 0 [zm 0 22 6, zd 1 23 .add 22 1, zm 2 6 23, .g (.keep [1, 2, 5, 6])]))
def hallmarkref4_places.ir : C := .seq (.reg 1 [.o 0 (.box (some 2) 0 10 (.tmp 0)), zb 1 4 false, .g (.keep [1, 2])]) (.seq (.reg 0 [zf 0 7 2 5, zl 1 8 1 7, zm 2 9 1, .o 3 (.call (some 10) hallmarkref4_place.id [(.tmp 8), (.tmp 9)]), zm 4 11 10, yf 5 11 true 12 2 6, yl 6 11 true 13 1 12, ym 7 11 true 14 1, .gd 8 11 true (some 15) (.call (some 15) hallmarkref4_place.id [(.tmp 13), (.tmp 14)]), zr 9 16 11 15 false, zm 10 5 16, .g (.keep [1, 2, 5])]) (.seq (.seq (.reg 0 [zk 0 6 0, .g (.keep [1, 2, 5, 6])]) (.block 0 (.loop hallmarkref4_places.b0))) (.seq (.reg 0 [zm 0 34 5, zm 1 4 34, .g (.keep [4])]) (.ret))))
def hallmarkref4_places.rs : List Rs := [.sl 4]
theorem hallmarkref4_places.ok : isFn Tryz.prog hallmarkref4_places.id 35 hallmarkref4_places.ann hallmarkref4_places.ir hallmarkref4_places.rs := ⟨Tryz.f84, _, Tryz.func84, rfl, rfl, by kernel_rfl, by kernel_rfl⟩
-- hallmark/hallmarkref4.Number
def hallmarkref4_Number.ann : List (Nat × RA) := [(0, rk [0]), (1, rk [2])]
def hallmarkref4_Number.ir : C := .seq (.reg 0 [zb 0 2 false, .g (.keep [0])]) (.seq (.reg 0 [zm 0 3 0, .o 1 (.call (some 4) hallmarkref4_size.id [(.tmp 3), (.const (.int .i64 1000000000))]), zm 2 2 4, .g (.keep [2])]) (.ret))
def hallmarkref4_Number.rs : List Rs := [.sl 2]
theorem hallmarkref4_Number.ok : isFn Tryz.prog hallmarkref4_Number.id 5 hallmarkref4_Number.ann hallmarkref4_Number.ir hallmarkref4_Number.rs := ⟨Tryz.f85, _, Tryz.func85, rfl, rfl, by kernel_rfl, by kernel_rfl⟩
-- hallmark/hallmarkref4.Row
def hallmarkref4_Row.ann : List (Nat × RA) := [(0, rk [0, 1, 2]), (1, rk [0, 1, 2, 7]), (2, rk [0, 1, 2, 7, 11]), (3, rk [0, 1, 2, 7]), (4, ro [0, 1, 2, 7, 25] [0, 1, 2, 3, 4, 5, 6, 7, 8, 9, 10, 11]), (5, rk [6]), (6, rk [6])]
def hallmarkref4_Row.b0 : C := .seq (.seq (.reg 0 [zm 0 8 7, zm 1 9 0, zn 2 10 9, za 3 11 .lss 8 10, .g (.keep [0, 1, 2, 7, 11])]) (.cond (.tmp 11) (.skip) (.exit 0))) (.seq (.block 1 (.seq (.reg 0 [zm 0 14 2, zm 1 15 0, zm 2 16 7, zx 3 17 1 15 16, zl 4 18 1 17, zx 5 19 1 14 18, zl 6 20 1 19, zm 7 21 1, zm 8 22 7, zx 9 23 1 21 22, zl 10 24 1 23, za 11 25 .neq 20 24, .g (.keep [0, 1, 2, 7, 25])]) (.cond (.tmp 25) (.seq (.reg 0 [zb 0 6 false, .g (.keep [6])]) (.ret)) (.skip)))) (.reg 0 [zm 0 12 7, zd 1 13 .add 12 1, zm 2 7 13, .g (.keep [0, 1, 2, 7])]))
def hallmarkref4_Row.ir : C := .seq (.reg 0 [zb 0 6 false, .g (.keep [0, 1, 2])]) (.seq (.seq (.reg 0 [zk 0 7 0, .g (.keep [0, 1, 2, 7])]) (.block 0 (.loop hallmarkref4_Row.b0))) (.seq (.reg 0 [zb 0 6 true, .g (.keep [6])]) (.ret)))
def hallmarkref4_Row.rs : List Rs := [.sl 6]
theorem hallmarkref4_Row.ok : isFn Tryz.prog hallmarkref4_Row.id 26 hallmarkref4_Row.ann hallmarkref4_Row.ir hallmarkref4_Row.rs := ⟨Tryz.f86, _, Tryz.func86, rfl, rfl, by kernel_rfl, by kernel_rfl⟩
-- hallmark/model.terms
def model_terms.ann : List (Nat × RA) := [(0, rk [0, 1, 4, 5]), (1, rk [1, 4, 5, 8, 9, 10]), (2, rk [1, 4, 5, 8, 9, 10, 11]), (3, rk [1, 4, 5, 7, 8, 9, 10]), (4, rk [1, 4, 5, 7, 8, 9, 10]), (5, rk [1, 4, 5, 8, 9, 10]), (6, rk [1, 4, 5, 8, 9, 10]), (7, rk [4, 5])]
def model_terms.b0 : C := .seq (.reg 0 [za 0 11 .lss 10 9, .g (.keep [1, 4, 5, 8, 9, 10, 11])]) (.seq (.cond (.tmp 11) (.skip) (.exit 0)) (.seq (.block 1 (.seq (.reg 1 [zx 0 12 2 8 10, zL 1 13 2 12, .o 2 (.alloc (some 7) 0 2 [.a (.int .i64 0), .a (.int .i64 0)]), .o 3 (.store [] 2 (.tmp 7) (.tmp 13)), .g (.keep [1, 4, 5, 7, 8, 9, 10])]) (.seq (.reg 0 [zm 0 14 4, zm 1 15 14, yf 2 15 false 16 7 1, yl 3 15 false 17 1 16, yd 4 15 false 18 .lss 17 0, zp 5 19 15 true 18, zm 6 20 19, yf 7 20 false 21 7 1, yl 8 20 false 22 1 21, ym 9 20 false 23 1, ya 10 20 false 24 .geq 22 23, zp 11 25 20 true 24, zm 12 4 25, .g (.keep [1, 4, 5, 7, 8, 9, 10])]) (.reg 0 [zm 0 26 5, zm 1 27 26, yf 2 27 false 28 7 0, yl 3 27 false 29 1 28, yd 4 27 false 30 .eql 29 0, zp 5 31 27 true 30, zm 6 32 31, yf 7 32 false 33 7 0, yl 8 32 false 34 1 33, .gd 9 32 false (some 35) (.call (some 35) model_within.id [(.tmp 34), (.const (.int .i64 1000000))]), yq 10 32 false 36 35, zp 11 37 32 true 36, zm 12 5 37, .g (.keep [1, 4, 5, 8, 9, 10])])))) (.reg 0 [zd 0 38 .add 10 1, zm 1 10 38, .g (.keep [1, 4, 5, 8, 9, 10])])))
def model_terms.ir : C := .seq (.reg 0 [zb 0 4 false, zb 1 5 false, .g (.keep [0, 1, 4, 5])]) (.seq (.seq (.reg 0 [zm 0 8 0, zn 1 9 8, zk 2 10 0, .g (.keep [1, 4, 5, 8, 9, 10])]) (.block 0 (.loop model_terms.b0))) (.seq (.reg 0 [zm 0 39 4, zm 1 40 5, zm 2 4 39, zm 3 5 40, .g (.keep [4, 5])]) (.ret)))
def model_terms.rs : List Rs := [.sl 4, .sl 5]
theorem model_terms.ok : isFn Tryz.prog model_terms.id 41 model_terms.ann model_terms.ir model_terms.rs := ⟨Tryz.f87, _, Tryz.func87, rfl, rfl, by kernel_rfl, by kernel_rfl⟩
-- hallmark/model.con$1
def model_con_1.ann : List (Nat × RA) := [(0, rk [0, 1]), (1, rk [3])]
def model_con_1.ir : C := .seq (.reg 0 [zb 0 3 false, .g (.keep [0, 1])]) (.seq (.reg 0 [zm 0 4 0, zd 1 5 .lss 4 0, zm 2 6 5, ym 3 6 false 7 0, yl 4 6 false 8 1 1, ya 5 6 false 9 .geq 7 8, zp 6 10 6 true 9, zm 7 3 10, .g (.keep [3])]) (.ret))
def model_con_1.rs : List Rs := [.sl 3]
theorem model_con_1.ok : isFn Tryz.prog model_con_1.id 11 model_con_1.ann model_con_1.ir model_con_1.rs := ⟨Tryz.f88, _, Tryz.func88, rfl, rfl, by kernel_rfl, by kernel_rfl⟩
-- hallmark/model.field
def model_field.ann : List (Nat × RA) := [(0, rk [2, 3]), (1, rk [2, 3, 5]), (2, rk [2, 3, 5, 18]), (3, rk [2, 3, 5]), (4, rk [2, 3, 5, 21]), (5, rk [2, 3, 5]), (6, rk [2, 3, 5, 24]), (7, rk [2, 3, 5]), (8, rk [2, 3, 5, 27]), (9, rk [2, 3, 5]), (10, rk [2, 3, 5, 30]), (11, rk [2, 3, 5]), (12, rk [4])]
def model_field.ir : C := .seq (.reg 2 [.o 0 (.box (some 2) 0 10 (.tmp 0)), .o 1 (.box (some 3) 1 10 (.tmp 1)), zb 2 4 false, .g (.keep [2, 3])]) (.seq (.reg 1 [zf 0 6 2 1, zl 1 7 1 6, zf 2 8 2 3, zl 3 9 1 8, zf 4 10 2 4, zl 5 11 1 10, zf 6 12 2 5, zl 7 13 1 12, zf 8 14 2 6, zl 9 15 1 14, .o 10 (.lt (some 16) (.build [.a (.int .i64 0), .a (.int .i64 0), .a (.int .i64 0), .a (.int .i64 0), .a (.int .i64 0)] [(0, 1, (.tmp 7)), (1, 1, (.tmp 9)), (2, 1, (.tmp 11)), (3, 1, (.tmp 13)), (4, 1, (.tmp 15))])), .o 11 (.alloc (some 5) 0 5 [.a (.int .i64 0), .a (.int .i64 0), .a (.int .i64 0), .a (.int .i64 0), .a (.int .i64 0)]), .o 12 (.store [] 5 (.tmp 5) (.tmp 16)), .g (.keep [2, 3, 5])]) (.seq (.seq (.reg 0 [zf 0 17 3 7, zl 1 18 1 17, .g (.keep [2, 3, 5, 18])]) (.cond (.tmp 18) (.reg 0 [zf 0 19 5 0, .o 1 (.store [] 1 (.tmp 19) (.const (.int .i64 0))), .g (.keep [2, 3, 5])]) (.skip))) (.seq (.seq (.reg 0 [zf 0 20 3 8, zl 1 21 1 20, .g (.keep [2, 3, 5, 21])]) (.cond (.tmp 21) (.reg 0 [zf 0 22 5 2, .o 1 (.store [] 1 (.tmp 22) (.const (.int .i64 0))), .g (.keep [2, 3, 5])]) (.skip))) (.seq (.seq (.reg 0 [zf 0 23 3 6, zl 1 24 1 23, .g (.keep [2, 3, 5, 24])]) (.cond (.tmp 24) (.reg 0 [zf 0 25 5 1, .o 1 (.store [] 1 (.tmp 25) (.const (.int .i64 0))), .g (.keep [2, 3, 5])]) (.skip))) (.seq (.seq (.reg 0 [zf 0 26 3 4, zl 1 27 1 26, .g (.keep [2, 3, 5, 27])]) (.cond (.tmp 27) (.reg 0 [zf 0 28 5 3, .o 1 (.store [] 1 (.tmp 28) (.const (.int .i64 0))), .g (.keep [2, 3, 5])]) (.skip))) (.seq (.seq (.reg 0 [zf 0 29 3 5, zl 1 30 1 29, .g (.keep [2, 3, 5, 30])]) (.cond (.tmp 30) (.reg 0 [zf 0 31 5 4, .o 1 (.store [] 1 (.tmp 31) (.const (.int .i64 0))), .g (.keep [2, 3, 5])]) (.skip))) (.seq (.reg 0 [zL 0 32 5 5, .o 1 (.lt (some 33) (.build [.a (.int .i64 0), .a (.int .i64 0), .a (.int .i64 0), .a (.int .i64 0), .a (.int .i64 0)] [])), .o 2 (.lt (some 34) (.eqD true [(0, 0), (1, 0), (2, 0), (3, 0), (4, 0)] (.tmp 32) (.tmp 33))), zm 3 35 34, yf 4 35 false 36 3 0, yl 5 35 false 37 1 36, yq 6 35 false 38 37, ym 7 35 false 39 38, yf 8 39 true 40 2 2, yl 9 39 true 41 1 40, yn 10 39 true 42 41, yd 11 39 true 43 .gtr 42 0, yr 12 35 false 44 39 43 false, zp 13 45 35 true 44, zm 14 46 45, yf 15 46 false 47 3 1, yl 16 46 false 48 1 47, yq 17 46 false 49 48, ym 18 46 false 50 49, yf 19 50 true 51 2 7, yl 20 50 true 52 1 51, yn 21 50 true 53 52, yd 22 50 true 54 .gtr 53 0, yr 23 46 false 55 50 54 false, zp 24 56 46 true 55, zm 25 57 56, yf 26 57 false 58 3 2, yl 27 57 false 59 1 58, yq 28 57 false 60 59, ym 29 57 false 61 60, yf 30 61 true 62 2 8, yl 31 61 true 63 1 62, yn 32 61 true 64 63, yd 33 61 true 65 .gtr 64 0, yr 34 57 false 66 61 65 false, zp 35 67 57 true 66, zm 36 68 67, yf 37 68 false 69 3 3, yl 38 68 false 70 1 69, yq 39 68 false 71 70, ym 40 68 false 72 71, yf 41 72 true 73 2 9, yl 42 72 true 74 1 73, yn 43 72 true 75 74, yd 44 72 true 76 .gtr 75 0, yr 45 68 false 77 72 76 false, zp 46 78 68 true 77, zm 47 4 78, .g (.keep [4])]) (.ret))))))))
def model_field.rs : List Rs := [.sl 4]
theorem model_field.ok : isFn Tryz.prog model_field.id 79 model_field.ann model_field.ir model_field.rs := ⟨Tryz.f89, _, Tryz.func89, rfl, rfl, by kernel_rfl, by kernel_rfl⟩
-- hallmark/model.counts
def model_counts.ann : List (Nat × RA) := [(0, rk [0, 1]), (1, rk [4])]
def model_counts.ir : C := .seq (.reg 0 [zb 0 4 false, .g (.keep [0, 1])]) (.seq (.reg 0 [zm 0 5 0, zq 1 6 5, zm 2 7 6, ym 3 7 false 8 1, yd 4 7 false 9 .geq 8 1, ym 5 7 false 10 9, ym 6 10 true 11 1, yd 7 10 true 12 .leq 11 64, yr 8 7 false 13 10 12 false, zp 9 14 7 true 13, zm 10 4 14, .g (.keep [4])]) (.ret))
def model_counts.rs : List Rs := [.sl 4]
theorem model_counts.ok : isFn Tryz.prog model_counts.id 15 model_counts.ann model_counts.ir model_counts.rs := ⟨Tryz.f90, _, Tryz.func90, rfl, rfl, by kernel_rfl, by kernel_rfl⟩
-- hallmark/model.wide
def model_wide.ann : List (Nat × RA) := [(0, rk [2, 3]), (1, rp [4] [(18, [1000001])])]
def model_wide.ir : C := .seq (.reg 2 [.o 0 (.box (some 2) 0 10 (.tmp 0)), .o 1 (.box (some 3) 1 10 (.tmp 1)), zb 2 4 false, .g (.keep [2, 3])]) (.seq (.reg 0 [zf 0 5 3 3, zl 1 6 1 5, zm 2 7 6, yf 3 7 true 8 2 7, yl 4 7 true 9 1 8, yn 5 7 true 10 9, yd 6 7 true 11 .gtr 10 8, ym 7 7 true 12 11, yf 8 12 false 13 2 9, yl 9 12 false 14 1 13, yn 10 12 false 15 14, .gd 11 12 false (some 16) (.call (some 16) model_counts.id [(.const (.bool true)), (.tmp 15)]), yq 12 12 false 17 16, yp 13 7 true 18 12 true 17, ym 14 7 true 19 18, yf 15 19 false 20 2 9, yl 16 19 false 21 1 20, .gd 17 19 false (some 22) (.lt (some 22) (.mkfn (.func model_wide_1.id) [] [(.tmp 2)])), .gd 18 19 false (some 23) (.callb (some 23) (.func slices_ContainsFunc_LLint_Lint.id) [(.tmp 21), (.tmp 22)]), yp 19 7 true 24 19 true 23, zr 20 25 7 24 false, zm 21 4 25, .g (.keep [4])]) (.ret))
def model_wide.rs : List Rs := [.sl 4]
theorem model_wide.ok : isFn Tryz.prog model_wide.id 26 model_wide.ann model_wide.ir model_wide.rs := ⟨Tryz.f91, _, Tryz.func91, rfl, rfl, by kernel_rfl, by kernel_rfl⟩
-- slices.ContainsFunc[[]int,int]
def slices_ContainsFunc_Lint_int.ann : List (Nat × RA) := [(0, rk [0, 1]), (1, rk [4])]
def slices_ContainsFunc_Lint_int.ir : C := .seq (.reg 0 [zb 0 4 false, .g (.keep [0, 1])]) (.seq (.reg 0 [zm 0 5 0, zm 1 6 1, .o 2 (.call (some 7) slices_IndexFunc_Lint_int.id [(.tmp 5), (.tmp 6)]), zd 3 8 .geq 7 0, zm 4 4 8, .g (.keep [4])]) (.ret))
def slices_ContainsFunc_Lint_int.rs : List Rs := [.sl 4]
theorem slices_ContainsFunc_Lint_int.ok : isFn Tryz.prog slices_ContainsFunc_Lint_int.id 9 slices_ContainsFunc_Lint_int.ann slices_ContainsFunc_Lint_int.ir slices_ContainsFunc_Lint_int.rs := ⟨Tryz.f92, _, Tryz.func92, rfl, rfl, by kernel_rfl, by kernel_rfl⟩
-- hallmark/model.within
def model_within.ann : List (Nat × RA) := [(0, rk [0, 1]), (1, rk [4])]
def model_within.ir : C := .seq (.reg 0 [zb 0 4 false, .g (.keep [0, 1])]) (.seq (.reg 0 [zm 0 5 0, zm 1 6 1, .o 2 (.lt (some 7) (.un .neg (.tmp 6))), za 3 8 .geq 5 7, zm 4 9 8, ym 5 9 true 10 0, ym 6 9 true 11 1, ya 7 9 true 12 .leq 10 11, zr 8 13 9 12 false, zm 9 4 13, .g (.keep [4])]) (.ret))
def model_within.rs : List Rs := [.sl 4]
theorem model_within.ok : isFn Tryz.prog model_within.id 14 model_within.ann model_within.ir model_within.rs := ⟨Tryz.f93, _, Tryz.func93, rfl, rfl, by kernel_rfl, by kernel_rfl⟩
-- hallmark/model.great
def model_great.ann : List (Nat × RA) := [(0, rk [0]), (1, rk [2])]
def model_great.ir : C := .seq (.reg 0 [zb 0 2 false, .g (.keep [0])]) (.seq (.reg 0 [zm 0 3 0, .o 1 (.call (some 4) slices_ContainsFunc_Lint_int.id [(.tmp 3), (.func model_great_1.id)]), zm 2 2 4, .g (.keep [2])]) (.ret))
def model_great.rs : List Rs := [.sl 2]
theorem model_great.ok : isFn Tryz.prog model_great.id 5 model_great.ann model_great.ir model_great.rs := ⟨Tryz.f94, _, Tryz.func94, rfl, rfl, by kernel_rfl, by kernel_rfl⟩
-- slices.ContainsFunc[[][]int,[]int]
def slices_ContainsFunc_LLint_Lint.ann : List (Nat × RA) := [(0, rk [0, 1]), (1, rk [4])]
def slices_ContainsFunc_LLint_Lint.ir : C := .seq (.reg 0 [zb 0 4 false, .g (.keep [0, 1])]) (.seq (.reg 0 [zm 0 5 0, zm 1 6 1, .o 2 (.call (some 7) slices_IndexFunc_LLint_Lint.id [(.tmp 5), (.tmp 6)]), zd 3 8 .geq 7 0, zm 4 4 8, .g (.keep [4])]) (.ret))
def slices_ContainsFunc_LLint_Lint.rs : List Rs := [.sl 4]
theorem slices_ContainsFunc_LLint_Lint.ok : isFn Tryz.prog slices_ContainsFunc_LLint_Lint.id 9 slices_ContainsFunc_LLint_Lint.ann slices_ContainsFunc_LLint_Lint.ir slices_ContainsFunc_LLint_Lint.rs := ⟨Tryz.f95, _, Tryz.func95, rfl, rfl, by kernel_rfl, by kernel_rfl⟩
-- hallmark/model.lin
def model_lin.ann : List (Nat × RA) := [(0, rk [1, 2]), (1, ro [4] [0, 1, 2, 3, 4, 6, 7, 5, 8, 9])]
def model_lin.ir : C := .seq (.reg 1 [.o 0 (.box (some 2) 0 10 (.tmp 0)), zb 1 4 false, .g (.keep [1, 2])]) (.seq (.reg 0 [zf 0 5 2 1, zl 1 6 1 5, zf 2 7 2 2, zl 3 8 1 7, zm 4 9 1, zf 6 11 2 3, zl 7 12 1 11, .o 5 (.call (some 10) model_sum.id [(.tmp 8), (.tmp 9)]), .o 8 (.call (some 13) model_is.id [(.tmp 6), (.tmp 10), (.tmp 12)]), zm 9 4 13, .g (.keep [4])]) (.ret))
def model_lin.rs : List Rs := [.sl 4]
theorem model_lin.ok : isFn Tryz.prog model_lin.id 14 model_lin.ann model_lin.ir model_lin.rs := ⟨Tryz.f96, _, Tryz.func96, rfl, rfl, by kernel_rfl, by kernel_rfl⟩
-- hallmark/model.kinds$1
def model_kinds_1.ann : List (Nat × RA) := [(0, rk [1, 2]), (1, ro [4] [0, 1, 2, 4, 5, 6, 8, 9, 3, 7, 10, 11, 12])]
def model_kinds_1.ir : C := .seq (.reg 1 [.o 0 (.box (some 2) 0 10 (.tmp 0)), zb 1 4 false, .g (.keep [1, 2])]) (.seq (.reg 0 [zm 0 5 1, zf 1 6 2 5, zl 2 7 1 6, zm 4 9 1, zf 5 10 2 6, zl 6 11 1 10, zf 8 13 2 3, zl 9 14 1 13, .o 3 (.callv (some 8) (.tmp 5) [(.tmp 7)]), .o 7 (.callv (some 12) (.tmp 9) [(.tmp 11)]), za 10 15 .add 12 14, za 11 16 .neq 8 15, zm 12 4 16, .g (.keep [4])]) (.ret))
def model_kinds_1.rs : List Rs := [.sl 4]
theorem model_kinds_1.ok : isFn Tryz.prog model_kinds_1.id 17 model_kinds_1.ann model_kinds_1.ir model_kinds_1.rs := ⟨Tryz.f97, _, Tryz.func97, rfl, rfl, by kernel_rfl, by kernel_rfl⟩
-- hallmark/model.allDiff
def model_allDiff.ann : List (Nat × RA) := [(0, rk [1, 2]), (1, rp [2, 5] [(3, [1000002])]), (2, rp [2, 5] [(1, [1000000])]), (3, rq [4] [0, 3, 4, 5, 1, 2, 6, 7] [(1, [1000003, 2, 15, 16])])]
def model_allDiff.ir : C := .seq (.reg 1 [.o 0 (.box (some 2) 0 10 (.tmp 0)), zb 1 4 false, .g (.keep [1, 2])]) (.seq (.reg 0 [zf 0 6 2 7, zl 1 7 1 6, zm 2 8 1, .o 3 (.callo (some 9) (.func model_each.id) [(.tmp 7), (.tmp 8)]), zm 4 5 9, .g (.keep [2, 5])]) (.seq (.reg 0 [zm 0 10 5, .o 1 (.callm (some 11) (.func slices_Sort_Lint_int.id) [(.tmp 10)]), .g (.keep [2, 5])]) (.seq (.reg 0 [zm 0 12 5, zf 3 15 2 7, zl 4 16 1 15, zn 5 17 16, .o 1 (.calla [2, 15, 16] (some 13) (.func slices_Compact_Lint_int.id) [(.tmp 12)]), zn 2 14 13, za 6 18 .eql 14 17, zm 7 4 18, .g (.keep [4])]) (.ret))))
def model_allDiff.rs : List Rs := [.sl 4]
theorem model_allDiff.ok : isFn Tryz.prog model_allDiff.id 19 model_allDiff.ann model_allDiff.ir model_allDiff.rs := ⟨Tryz.f98, _, Tryz.func98, rfl, rfl, by kernel_rfl, by kernel_rfl⟩
-- hallmark/model.element
def model_element.ann : List (Nat × RA) := [(0, rk [1, 2]), (1, rk [1, 2, 5]), (2, ro [4] [0, 1, 2, 3, 4, 5, 6, 7, 8, 9, 10, 11, 12, 14, 15, 16, 17, 18, 13, 19, 20, 21])]
def model_element.ir : C := .seq (.reg 1 [.o 0 (.box (some 2) 0 10 (.tmp 0)), zb 1 4 false, .g (.keep [1, 2])]) (.seq (.reg 0 [zm 0 6 1, zf 1 7 2 5, zl 2 8 1 7, .o 3 (.callv (some 9) (.tmp 6) [(.tmp 8)]), zm 4 5 9, .g (.keep [1, 2, 5])]) (.seq (.reg 0 [zm 0 10 5, zd 1 11 .geq 10 0, zm 2 12 11, ym 3 12 true 13 5, yf 4 12 true 14 2 8, yl 5 12 true 15 1 14, yn 6 12 true 16 15, ya 7 12 true 17 .lss 13 16, zr 8 18 12 17 false, zm 9 19 18, ym 10 19 true 20 1, yf 11 19 true 21 2 6, yl 12 19 true 22 1 21, yf 14 19 true 24 2 8, yl 15 19 true 25 1 24, ym 16 19 true 26 5, yx 17 19 true 27 1 25 26, yl 18 19 true 28 1 27, .gd 13 19 true (some 23) (.callv (some 23) (.tmp 20) [(.tmp 22)]), ya 19 19 true 29 .eql 23 28, zr 20 30 19 29 false, zm 21 4 30, .g (.keep [4])]) (.ret)))
def model_element.rs : List Rs := [.sl 4]
theorem model_element.ok : isFn Tryz.prog model_element.id 31 model_element.ann model_element.ir model_element.rs := ⟨Tryz.f99, _, Tryz.func99, rfl, rfl, by kernel_rfl, by kernel_rfl⟩
-- hallmark/model.kinds$2
def model_kinds_2.ann : List (Nat × RA) := [(0, rk [1, 2]), (1, ro [4] [0, 1, 2, 4, 5, 6, 3, 7, 8, 9, 10])]
def model_kinds_2.ir : C := .seq (.reg 1 [.o 0 (.box (some 2) 0 10 (.tmp 0)), zb 1 4 false, .g (.keep [1, 2])]) (.seq (.reg 0 [zm 0 5 1, zf 1 6 2 6, zl 2 7 1 6, zf 4 9 2 7, zl 5 10 1 9, zm 6 11 1, .o 3 (.callv (some 8) (.tmp 5) [(.tmp 7)]), .o 7 (.call (some 12) model_each.id [(.tmp 10), (.tmp 11)]), .o 8 (.call (some 13) slices_Max_Lint_int.id [(.tmp 12)]), za 9 14 .eql 8 13, zm 10 4 14, .g (.keep [4])]) (.ret))
def model_kinds_2.rs : List Rs := [.sl 4]
theorem model_kinds_2.ok : isFn Tryz.prog model_kinds_2.id 15 model_kinds_2.ann model_kinds_2.ir model_kinds_2.rs := ⟨Tryz.f100, _, Tryz.func100, rfl, rfl, by kernel_rfl, by kernel_rfl⟩
-- slices.Max[[]int,int]
def slices_Max_Lint_int.ann : List (Nat × RA) := [(0, rk [0]), (1, rk [0, 7]), (2, rk [0]), (3, rk [0, 3]), (4, rk [0, 3, 4]), (5, rk [0, 3, 4, 15]), (6, rk [0, 3, 4]), (7, rk [0, 3, 4]), (8, rk [2])]
def slices_Max_Lint_int.b0 : C := .seq (.seq (.reg 0 [zm 0 12 4, zm 1 13 0, zn 2 14 13, za 3 15 .lss 12 14, .g (.keep [0, 3, 4, 15])]) (.cond (.tmp 15) (.skip) (.exit 0))) (.seq (.block 1 (.reg 0 [zm 0 18 3, zm 1 19 0, zm 2 20 4, zx 3 21 1 19 20, zl 4 22 1 21, .o 5 (.lt (some 23) (.mxm true [(.tmp 18), (.tmp 22)])), zm 6 3 23, .g (.keep [0, 3, 4])])) (.reg 0 [zm 0 16 4, zd 1 17 .add 16 1, zm 2 4 17, .g (.keep [0, 3, 4])]))
def slices_Max_Lint_int.ir : C := .seq (.reg 0 [zk 0 2 0, .g (.keep [0])]) (.seq (.seq (.reg 0 [zm 0 5 0, zn 1 6 5, zd 2 7 .lss 6 1, .g (.keep [0, 7])]) (.cond (.tmp 7) (.reg 0 [.o 0 (.lt (some 8) (.mkif 9 (.const (.string { data := #[115, 108, 105, 99, 101, 115, 46, 77, 97, 120, 58, 32, 101, 109, 112, 116, 121, 32, 108, 105, 115, 116] })))), .o 1 (.pan), .g (.keep [0])]) (.skip))) (.seq (.reg 0 [zm 0 9 0, .o 1 (.lt (some 10) (.ixS 1 (.tmp 9) (.const (.int .i64 0)))), zl 2 11 1 10, zm 3 3 11, .g (.keep [0, 3])]) (.seq (.seq (.reg 0 [zk 0 4 1, .g (.keep [0, 3, 4])]) (.block 0 (.loop slices_Max_Lint_int.b0))) (.seq (.reg 0 [zm 0 24 3, zm 1 2 24, .g (.keep [2])]) (.ret)))))
def slices_Max_Lint_int.rs : List Rs := [.sl 2]
theorem slices_Max_Lint_int.ok : isFn Tryz.prog slices_Max_Lint_int.id 25 slices_Max_Lint_int.ann slices_Max_Lint_int.ir slices_Max_Lint_int.rs := ⟨Tryz.f101, _, Tryz.func101, rfl, rfl, by kernel_rfl, by kernel_rfl⟩
-- hallmark/model.each
def model_each.ann : List (Nat × RA) := [(0, rk [0, 1]), (1, rk [0, 1, 5]), (2, rk [1, 5, 8, 9, 10]), (3, rk [1, 5, 8, 9, 10, 11]), (4, rk [1, 5, 7, 8, 9, 10]), (5, rk [1, 5, 8, 9, 10]), (6, rk [1, 5, 8, 9, 10]), (7, { gs := [(0, [.nilv 5 1])], keep := some [4] })]
def model_each.b0 : C := .seq (.reg 0 [za 0 11 .lss 10 9, .g (.keep [1, 5, 8, 9, 10, 11])]) (.seq (.cond (.tmp 11) (.skip) (.exit 0)) (.seq (.block 1 (.seq (.reg 0 [zx 0 12 1 8 10, zl 1 13 1 12, zm 2 7 13, .g (.keep [1, 5, 7, 8, 9, 10])]) (.reg 2 [zm 0 14 5, zm 1 15 1, zm 2 16 7, .o 3 (.callv (some 17) (.tmp 15) [(.tmp 16)]), .o 4 (.bsl (some 18) 0 1 1 [.a (.int .i64 0)] [(0, (.tmp 17))]), .o 5 (.app [] (some 19) 1 1 8 (.tmp 14) (.tmp 18)), zm 6 5 19, .g (.keep [1, 5, 8, 9, 10])]))) (.reg 0 [zd 0 20 .add 10 1, zm 1 10 20, .g (.keep [1, 5, 8, 9, 10])])))
def model_each.ir : C := .seq (.reg 0 [.o 0 (.lt (some 4) (.mov (.const (.slice none 0 0)))), .g (.keep [0, 1])]) (.seq (.reg 0 [.o 0 (.lt (some 5) (.mov (.const (.slice none 0 0)))), .g (.keep [0, 1, 5])]) (.seq (.seq (.reg 0 [zm 0 8 0, zn 1 9 8, zk 2 10 0, .g (.keep [1, 5, 8, 9, 10])]) (.block 0 (.loop model_each.b0))) (.seq (.reg 0 [.g (.nilv 5 1), zm 0 21 5, zm 1 4 21, .g (.keep [4])]) (.ret))))
def model_each.rs : List Rs := [.sl 4]
theorem model_each.ok : isFn Tryz.prog model_each.id 22 model_each.ann model_each.ir model_each.rs := ⟨Tryz.f102, _, Tryz.func102, rfl, rfl, by kernel_rfl, by kernel_rfl⟩
-- hallmark/model.kinds$3
def model_kinds_3.ann : List (Nat × RA) := [(0, rk [1, 2]), (1, ro [4] [0, 1, 2, 4, 5, 6, 3, 7, 8, 9, 10])]
def model_kinds_3.ir : C := .seq (.reg 1 [.o 0 (.box (some 2) 0 10 (.tmp 0)), zb 1 4 false, .g (.keep [1, 2])]) (.seq (.reg 0 [zm 0 5 1, zf 1 6 2 6, zl 2 7 1 6, zf 4 9 2 7, zl 5 10 1 9, zm 6 11 1, .o 3 (.callv (some 8) (.tmp 5) [(.tmp 7)]), .o 7 (.call (some 12) model_each.id [(.tmp 10), (.tmp 11)]), .o 8 (.call (some 13) slices_Min_Lint_int.id [(.tmp 12)]), za 9 14 .eql 8 13, zm 10 4 14, .g (.keep [4])]) (.ret))
def model_kinds_3.rs : List Rs := [.sl 4]
theorem model_kinds_3.ok : isFn Tryz.prog model_kinds_3.id 15 model_kinds_3.ann model_kinds_3.ir model_kinds_3.rs := ⟨Tryz.f103, _, Tryz.func103, rfl, rfl, by kernel_rfl, by kernel_rfl⟩
-- slices.Min[[]int,int]
def slices_Min_Lint_int.ann : List (Nat × RA) := [(0, rk [0]), (1, rk [0, 7]), (2, rk [0]), (3, rk [0, 3]), (4, rk [0, 3, 4]), (5, rk [0, 3, 4, 15]), (6, rk [0, 3, 4]), (7, rk [0, 3, 4]), (8, rk [2])]
def slices_Min_Lint_int.b0 : C := .seq (.seq (.reg 0 [zm 0 12 4, zm 1 13 0, zn 2 14 13, za 3 15 .lss 12 14, .g (.keep [0, 3, 4, 15])]) (.cond (.tmp 15) (.skip) (.exit 0))) (.seq (.block 1 (.reg 0 [zm 0 18 3, zm 1 19 0, zm 2 20 4, zx 3 21 1 19 20, zl 4 22 1 21, .o 5 (.lt (some 23) (.mxm false [(.tmp 18), (.tmp 22)])), zm 6 3 23, .g (.keep [0, 3, 4])])) (.reg 0 [zm 0 16 4, zd 1 17 .add 16 1, zm 2 4 17, .g (.keep [0, 3, 4])]))
def slices_Min_Lint_int.ir : C := .seq (.reg 0 [zk 0 2 0, .g (.keep [0])]) (.seq (.seq (.reg 0 [zm 0 5 0, zn 1 6 5, zd 2 7 .lss 6 1, .g (.keep [0, 7])]) (.cond (.tmp 7) (.reg 0 [.o 0 (.lt (some 8) (.mkif 9 (.const (.string { data := #[115, 108, 105, 99, 101, 115, 46, 77, 105, 110, 58, 32, 101, 109, 112, 116, 121, 32, 108, 105, 115, 116] })))), .o 1 (.pan), .g (.keep [0])]) (.skip))) (.seq (.reg 0 [zm 0 9 0, .o 1 (.lt (some 10) (.ixS 1 (.tmp 9) (.const (.int .i64 0)))), zl 2 11 1 10, zm 3 3 11, .g (.keep [0, 3])]) (.seq (.seq (.reg 0 [zk 0 4 1, .g (.keep [0, 3, 4])]) (.block 0 (.loop slices_Min_Lint_int.b0))) (.seq (.reg 0 [zm 0 24 3, zm 1 2 24, .g (.keep [2])]) (.ret)))))
def slices_Min_Lint_int.rs : List Rs := [.sl 2]
theorem slices_Min_Lint_int.ok : isFn Tryz.prog slices_Min_Lint_int.id 25 slices_Min_Lint_int.ann slices_Min_Lint_int.ir slices_Min_Lint_int.rs := ⟨Tryz.f104, _, Tryz.func104, rfl, rfl, by kernel_rfl, by kernel_rfl⟩
-- hallmark/model.reif
def model_reif.ann : List (Nat × RA) := [(0, rk [1, 2]), (1, rk [1, 2, 5]), (2, ro [5, 16] [0, 1, 2, 4, 5, 3, 6]), (3, rk [4]), (4, rk [4])]
def model_reif.ir : C := .seq (.reg 1 [.o 0 (.box (some 2) 0 10 (.tmp 0)), zb 1 4 false, .g (.keep [1, 2])]) (.seq (.reg 0 [zm 0 6 1, zf 1 7 2 5, zl 2 8 1 7, .o 3 (.callv (some 9) (.tmp 6) [(.tmp 8)]), zm 4 5 9, .g (.keep [1, 2, 5])]) (.seq (.seq (.reg 0 [zf 0 10 2 2, zl 1 11 1 10, zm 2 12 1, zf 4 14 2 3, zl 5 15 1 14, .o 3 (.call (some 13) model_sum.id [(.tmp 11), (.tmp 12)]), za 6 16 .leq 13 15, .g (.keep [5, 16])]) (.cond (.tmp 16) (.seq (.reg 0 [zm 0 17 5, zd 1 18 .eql 17 1, zm 2 4 18, .g (.keep [4])]) (.ret)) (.skip))) (.seq (.reg 0 [zm 0 19 5, zd 1 20 .eql 19 0, zm 2 4 20, .g (.keep [4])]) (.ret))))
def model_reif.rs : List Rs := [.sl 4]
theorem model_reif.ok : isFn Tryz.prog model_reif.id 21 model_reif.ann model_reif.ir model_reif.rs := ⟨Tryz.f105, _, Tryz.func105, rfl, rfl, by kernel_rfl, by kernel_rfl⟩
-- hallmark/model.table
def model_table.ann : List (Nat × RA) := [(0, rk [1, 2]), (1, rk [2, 5]), (2, rp [4] [(3, [1000001])])]
def model_table.ir : C := .seq (.reg 1 [.o 0 (.box (some 2) 0 10 (.tmp 0)), zb 1 4 false, .g (.keep [1, 2])]) (.seq (.reg 1 [zf 0 6 2 7, zl 1 7 1 6, zm 2 8 1, .o 3 (.call (some 9) model_each.id [(.tmp 7), (.tmp 8)]), .o 4 (.alloc (some 5) 0 1 [.a (.slice none 0 0)]), .o 5 (.store [] 1 (.tmp 5) (.tmp 9)), .g (.keep [2, 5])]) (.seq (.reg 0 [zf 0 10 2 9, zl 1 11 1 10, .o 2 (.lt (some 12) (.mkfn (.func model_table_1.id) [] [(.tmp 5)])), .o 3 (.callb (some 13) (.func slices_ContainsFunc_LLint_Lint.id) [(.tmp 11), (.tmp 12)]), zm 4 4 13, .g (.keep [4])]) (.ret)))
def model_table.rs : List Rs := [.sl 4]
theorem model_table.ok : isFn Tryz.prog model_table.id 14 model_table.ann model_table.ir model_table.rs := ⟨Tryz.f106, _, Tryz.func106, rfl, rfl, by kernel_rfl, by kernel_rfl⟩
-- hallmark/model.count
def model_count.ann : List (Nat × RA) := [(0, rk [1, 2]), (1, rk [1, 2, 5]), (2, rk [2, 5, 11, 12, 13]), (3, rk [2, 5, 11, 12, 13, 14]), (4, rk [2, 5, 7, 11, 12, 13]), (5, rk [2, 5, 11, 12, 13, 20]), (6, rk [2, 5, 11, 12, 13]), (7, rk [2, 5, 11, 12, 13]), (8, rk [4])]
def model_count.b0 : C := .seq (.reg 0 [za 0 14 .lss 13 12, .g (.keep [2, 5, 11, 12, 13, 14])]) (.seq (.cond (.tmp 14) (.skip) (.exit 0)) (.seq (.block 1 (.seq (.reg 0 [zx 0 15 1 11 13, zl 1 16 1 15, zm 2 7 16, .g (.keep [2, 5, 7, 11, 12, 13])]) (.seq (.reg 0 [zm 0 17 7, zf 1 18 2 4, zl 2 19 1 18, za 3 20 .eql 17 19, .g (.keep [2, 5, 11, 12, 13, 20])]) (.cond (.tmp 20) (.reg 0 [zm 0 21 5, zd 1 22 .add 21 1, zm 2 5 22, .g (.keep [2, 5, 11, 12, 13])]) (.skip))))) (.reg 0 [zd 0 23 .add 13 1, zm 1 13 23, .g (.keep [2, 5, 11, 12, 13])])))
def model_count.ir : C := .seq (.reg 1 [.o 0 (.box (some 2) 0 10 (.tmp 0)), zb 1 4 false, .g (.keep [1, 2])]) (.seq (.reg 0 [zk 0 5 0, .g (.keep [1, 2, 5])]) (.seq (.seq (.reg 0 [zf 0 8 2 7, zl 1 9 1 8, zm 2 10 1, .o 3 (.call (some 11) model_each.id [(.tmp 9), (.tmp 10)]), zn 4 12 11, zk 5 13 0, .g (.keep [2, 5, 11, 12, 13])]) (.block 0 (.loop model_count.b0))) (.seq (.reg 0 [zf 0 24 2 1, zl 1 25 1 24, zm 2 26 5, zf 3 27 2 3, zl 4 28 1 27, .o 5 (.call (some 29) model_is.id [(.tmp 25), (.tmp 26), (.tmp 28)]), zm 6 4 29, .g (.keep [4])]) (.ret))))
def model_count.rs : List Rs := [.sl 4]
theorem model_count.ok : isFn Tryz.prog model_count.id 30 model_count.ann model_count.ir model_count.rs := ⟨Tryz.f107, _, Tryz.func107, rfl, rfl, by kernel_rfl, by kernel_rfl⟩
-- hallmark/hallmarkref4.sameRows
def hallmarkref4_sameRows.ann : List (Nat × RA) := [(0, rk [0, 1]), (1, rk [0, 1, 10]), (2, rk [4]), (3, rk [0, 1, 5]), (4, rk [0, 1, 5, 14]), (5, rk [0, 1, 5]), (6, ro [0, 1, 5, 26] [0, 1, 2, 3, 4, 5, 6, 7, 8, 9]), (7, rk [4]), (8, rk [4])]
def hallmarkref4_sameRows.b0 : C := .seq (.seq (.reg 0 [zm 0 11 5, zm 1 12 0, zn 2 13 12, za 3 14 .lss 11 13, .g (.keep [0, 1, 5, 14])]) (.cond (.tmp 14) (.skip) (.exit 0))) (.seq (.block 1 (.seq (.reg 0 [zm 0 17 0, zm 1 18 5, zx 2 19 1 17 18, zl 3 20 1 19, zm 4 21 1, zm 5 22 5, zx 6 23 1 21 22, zl 7 24 1 23, .o 8 (.call (some 25) hallmarkref4_sameInts.id [(.tmp 20), (.tmp 24)]), zq 9 26 25, .g (.keep [0, 1, 5, 26])]) (.cond (.tmp 26) (.seq (.reg 0 [zb 0 4 false, .g (.keep [4])]) (.ret)) (.skip)))) (.reg 0 [zm 0 15 5, zd 1 16 .add 15 1, zm 2 5 16, .g (.keep [0, 1, 5])]))
def hallmarkref4_sameRows.ir : C := .seq (.reg 0 [zb 0 4 false, .g (.keep [0, 1])]) (.seq (.seq (.reg 0 [zm 0 6 0, zn 1 7 6, zm 2 8 1, zn 3 9 8, za 4 10 .neq 7 9, .g (.keep [0, 1, 10])]) (.cond (.tmp 10) (.seq (.reg 0 [zb 0 4 false, .g (.keep [4])]) (.ret)) (.skip))) (.seq (.seq (.reg 0 [zk 0 5 0, .g (.keep [0, 1, 5])]) (.block 0 (.loop hallmarkref4_sameRows.b0))) (.seq (.reg 0 [zb 0 4 true, .g (.keep [4])]) (.ret))))
def hallmarkref4_sameRows.rs : List Rs := [.sl 4]
theorem hallmarkref4_sameRows.ok : isFn Tryz.prog hallmarkref4_sameRows.id 27 hallmarkref4_sameRows.ann hallmarkref4_sameRows.ir hallmarkref4_sameRows.rs := ⟨Tryz.f108, _, Tryz.func108, rfl, rfl, by kernel_rfl, by kernel_rfl⟩
-- hallmark/hallmarkref4.sameInts
def hallmarkref4_sameInts.ann : List (Nat × RA) := [(0, rk [0, 1]), (1, rk [0, 1, 10]), (2, rk [4]), (3, rk [0, 1, 5]), (4, rk [0, 1, 5, 14]), (5, rk [0, 1, 5]), (6, ro [0, 1, 5, 25] [0, 1, 2, 3, 4, 5, 6, 7, 8]), (7, rk [4]), (8, rk [4])]
def hallmarkref4_sameInts.b0 : C := .seq (.seq (.reg 0 [zm 0 11 5, zm 1 12 0, zn 2 13 12, za 3 14 .lss 11 13, .g (.keep [0, 1, 5, 14])]) (.cond (.tmp 14) (.skip) (.exit 0))) (.seq (.block 1 (.seq (.reg 0 [zm 0 17 0, zm 1 18 5, zx 2 19 1 17 18, zl 3 20 1 19, zm 4 21 1, zm 5 22 5, zx 6 23 1 21 22, zl 7 24 1 23, za 8 25 .neq 20 24, .g (.keep [0, 1, 5, 25])]) (.cond (.tmp 25) (.seq (.reg 0 [zb 0 4 false, .g (.keep [4])]) (.ret)) (.skip)))) (.reg 0 [zm 0 15 5, zd 1 16 .add 15 1, zm 2 5 16, .g (.keep [0, 1, 5])]))
def hallmarkref4_sameInts.ir : C := .seq (.reg 0 [zb 0 4 false, .g (.keep [0, 1])]) (.seq (.seq (.reg 0 [zm 0 6 0, zn 1 7 6, zm 2 8 1, zn 3 9 8, za 4 10 .neq 7 9, .g (.keep [0, 1, 10])]) (.cond (.tmp 10) (.seq (.reg 0 [zb 0 4 false, .g (.keep [4])]) (.ret)) (.skip))) (.seq (.seq (.reg 0 [zk 0 5 0, .g (.keep [0, 1, 5])]) (.block 0 (.loop hallmarkref4_sameInts.b0))) (.seq (.reg 0 [zb 0 4 true, .g (.keep [4])]) (.ret))))
def hallmarkref4_sameInts.rs : List Rs := [.sl 4]
theorem hallmarkref4_sameInts.ok : isFn Tryz.prog hallmarkref4_sameInts.id 26 hallmarkref4_sameInts.ann hallmarkref4_sameInts.ir hallmarkref4_sameInts.rs := ⟨Tryz.f109, _, Tryz.func109, rfl, rfl, by kernel_rfl, by kernel_rfl⟩
-- hallmark/hallmarkroom.word
-- (*hallmark/hallmarkroom.Room).layVars
-- (*hallmark/hallmarkroom.Room).layCons
-- hallmark/hallmarkref4.Name
-- hallmark/hallmarkref4.Bounds
-- hallmark/hallmarkref4.Coef
def hallmarkref4_Coef.ann : List (Nat × RA) := [(0, rk [0]), (1, rk [2])]
def hallmarkref4_Coef.ir : C := .seq (.reg 0 [zb 0 2 false, .g (.keep [0])]) (.seq (.reg 0 [zm 0 3 0, zd 1 4 .neq 3 0, zm 2 5 4, ym 3 5 true 6 0, .gd 4 5 true (some 7) (.call (some 7) hallmarkref4_size.id [(.tmp 6), (.const (.int .i64 1000000))]), zr 5 8 5 7 false, zm 6 2 8, .g (.keep [2])]) (.ret))
def hallmarkref4_Coef.rs : List Rs := [.sl 2]
theorem hallmarkref4_Coef.ok : isFn Tryz.prog hallmarkref4_Coef.id 9 hallmarkref4_Coef.ann hallmarkref4_Coef.ir hallmarkref4_Coef.rs := ⟨Tryz.f115, _, Tryz.func115, rfl, rfl, by kernel_rfl, by kernel_rfl⟩
-- hallmark/model.isName
-- slices.ContainsFunc[[]hallmark/api.Var,hallmark/api.Var]
-- hallmark/model.variable$1
-- slices.IndexFunc[[]hallmark/api.Con,hallmark/api.Con]
-- (*hallmark/hallmarkroom.Count).Lists
def hallmarkroom_Count_Lists.ann : List (Nat × RA) := [(0, rk [0, 1, 4]), (1, rp [0, 1, 4, 12] [(6, [1000000])]), (2, rk [0, 1, 4]), (3, rp [0, 1, 4] [(1, [1000000])]), (4, rp [0, 1, 4] [(6, [1000000])])]
def hallmarkroom_Count_Lists.b0 : C := .seq (.seq (.reg 0 [zm 0 5 4, zm 1 6 1, zn 2 7 6, za 3 8 .lss 5 7, zm 4 9 8, ym 5 9 true 10 0, .gd 6 9 true (some 11) (.callm (some 11) (.func hallmarkroom_Count_Ok.id) [(.tmp 10)]), zr 7 12 9 11 false, .g (.keep [0, 1, 4, 12])]) (.cond (.tmp 12) (.skip) (.exit 0))) (.seq (.block 1 (.seq (.reg 0 [zm 0 15 0, .o 1 (.callm (some 16) (.func hallmarkroom_Count_Add.id) [(.tmp 15), (.const (.int .i64 1))]), .g (.keep [0, 1, 4])]) (.reg 0 [zm 0 17 0, zm 1 18 1, zm 2 19 4, zx 3 20 1 18 19, zl 4 21 1 20, zn 5 22 21, .o 6 (.callm (some 23) (.func hallmarkroom_Count_Add.id) [(.tmp 17), (.tmp 22)]), .g (.keep [0, 1, 4])]))) (.reg 0 [zm 0 13 4, zd 1 14 .add 13 1, zm 2 4 14, .g (.keep [0, 1, 4])]))
def hallmarkroom_Count_Lists.ir : C := .seq (.reg 0 [zk 0 4 0, .g (.keep [0, 1, 4])]) (.block 0 (.loop hallmarkroom_Count_Lists.b0))
def hallmarkroom_Count_Lists.rs : List Rs := []
theorem hallmarkroom_Count_Lists.ok : isFn Tryz.prog hallmarkroom_Count_Lists.id 24 hallmarkroom_Count_Lists.ann hallmarkroom_Count_Lists.ir hallmarkroom_Count_Lists.rs := ⟨Tryz.f120, _, Tryz.func120, rfl, rfl, by kernel_rfl, by kernel_rfl⟩
-- hallmark/hallmarkref4.place
def hallmarkref4_place.ann : List (Nat × RA) := [(0, rk [0, 1]), (1, rk [4])]
def hallmarkref4_place.ir : C := .seq (.reg 0 [zb 0 4 false, .g (.keep [0, 1])]) (.seq (.reg 0 [zm 0 5 0, zd 1 6 .geq 5 0, zm 2 7 6, ym 3 7 true 8 0, ym 4 7 true 9 1, ya 5 7 true 10 .lss 8 9, zr 6 11 7 10 false, zm 7 4 11, .g (.keep [4])]) (.ret))
def hallmarkref4_place.rs : List Rs := [.sl 4]
theorem hallmarkref4_place.ok : isFn Tryz.prog hallmarkref4_place.id 12 hallmarkref4_place.ann hallmarkref4_place.ir hallmarkref4_place.rs := ⟨Tryz.f121, _, Tryz.func121, rfl, rfl, by kernel_rfl, by kernel_rfl⟩
-- hallmark/hallmarkref4.size
def hallmarkref4_size.ann : List (Nat × RA) := [(0, rk [0, 1]), (1, rk [4])]
def hallmarkref4_size.ir : C := .seq (.reg 0 [zb 0 4 false, .g (.keep [0, 1])]) (.seq (.reg 0 [zm 0 5 0, zm 1 6 1, .o 2 (.lt (some 7) (.un .neg (.tmp 6))), za 3 8 .geq 5 7, zm 4 9 8, ym 5 9 true 10 0, ym 6 9 true 11 1, ya 7 9 true 12 .leq 10 11, zr 8 13 9 12 false, zm 9 4 13, .g (.keep [4])]) (.ret))
def hallmarkref4_size.rs : List Rs := [.sl 4]
theorem hallmarkref4_size.ok : isFn Tryz.prog hallmarkref4_size.id 14 hallmarkref4_size.ann hallmarkref4_size.ir hallmarkref4_size.rs := ⟨Tryz.f122, _, Tryz.func122, rfl, rfl, by kernel_rfl, by kernel_rfl⟩
-- hallmark/model.wide$1
def model_wide_1.ann : List (Nat × RA) := [(0, rk [0, 1]), (1, rk [3])]
def model_wide_1.ir : C := .seq (.reg 0 [zb 0 3 false, .g (.keep [0, 1])]) (.seq (.reg 0 [zm 0 4 0, zn 1 5 4, zf 2 6 1 7, zl 3 7 1 6, zn 4 8 7, za 5 9 .neq 5 8, zm 6 3 9, .g (.keep [3])]) (.ret))
def model_wide_1.rs : List Rs := [.sl 3]
theorem model_wide_1.ok : isFn Tryz.prog model_wide_1.id 10 model_wide_1.ann model_wide_1.ir model_wide_1.rs := ⟨Tryz.f123, _, Tryz.func123, rfl, rfl, by kernel_rfl, by kernel_rfl⟩
-- slices.IndexFunc[[]int,int]
def slices_IndexFunc_Lint_int.ann : List (Nat × RA) := [(0, rk [0, 1]), (1, rk [0, 1, 7, 8]), (2, rk [0, 1, 7, 8, 9]), (3, rk [0, 1, 5, 7, 8]), (4, rk [0, 1, 5, 7, 8, 16]), (5, rk [4]), (6, rk [0, 1, 7, 8]), (7, rk [4])]
def slices_IndexFunc_Lint_int.b0 : C := .seq (.reg 0 [za 0 9 .lss 8 7, .g (.keep [0, 1, 7, 8, 9])]) (.seq (.cond (.tmp 9) (.skip) (.exit 0)) (.seq (.block 1 (.seq (.reg 0 [zm 0 10 8, zm 1 5 10, .g (.keep [0, 1, 5, 7, 8])]) (.seq (.reg 0 [zm 0 11 1, zm 1 12 0, zm 2 13 5, zx 3 14 1 12 13, zl 4 15 1 14, .o 5 (.callv (some 16) (.tmp 11) [(.tmp 15)]), .g (.keep [0, 1, 5, 7, 8, 16])]) (.cond (.tmp 16) (.seq (.reg 0 [zm 0 17 5, zm 1 4 17, .g (.keep [4])]) (.ret)) (.skip))))) (.reg 0 [zd 0 18 .add 8 1, zm 1 8 18, .g (.keep [0, 1, 7, 8])])))
def slices_IndexFunc_Lint_int.ir : C := .seq (.reg 0 [zk 0 4 0, .g (.keep [0, 1])]) (.seq (.seq (.reg 0 [zm 0 6 0, zn 1 7 6, zk 2 8 0, .g (.keep [0, 1, 7, 8])]) (.block 0 (.loop slices_IndexFunc_Lint_int.b0))) (.seq (.reg 0 [zk 0 4 (-1), .g (.keep [4])]) (.ret)))
def slices_IndexFunc_Lint_int.rs : List Rs := [.sl 4]
theorem slices_IndexFunc_Lint_int.ok : isFn Tryz.prog slices_IndexFunc_Lint_int.id 19 slices_IndexFunc_Lint_int.ann slices_IndexFunc_Lint_int.ir slices_IndexFunc_Lint_int.rs := ⟨Tryz.f124, _, Tryz.func124, rfl, rfl, by kernel_rfl, by kernel_rfl⟩
-- hallmark/model.great$1
def model_great_1.ann : List (Nat × RA) := [(0, rk [0]), (1, rk [2])]
def model_great_1.ir : C := .seq (.reg 0 [zb 0 2 false, .g (.keep [0])]) (.seq (.reg 0 [zm 0 3 0, .o 1 (.call (some 4) model_within.id [(.tmp 3), (.const (.int .i64 1000000000))]), zq 2 5 4, zm 3 2 5, .g (.keep [2])]) (.ret))
def model_great_1.rs : List Rs := [.sl 2]
theorem model_great_1.ok : isFn Tryz.prog model_great_1.id 6 model_great_1.ann model_great_1.ir model_great_1.rs := ⟨Tryz.f125, _, Tryz.func125, rfl, rfl, by kernel_rfl, by kernel_rfl⟩
-- slices.IndexFunc[[][]int,[]int]
def slices_IndexFunc_LLint_Lint.ann : List (Nat × RA) := [(0, rk [0, 1]), (1, rk [0, 1, 7, 8]), (2, rk [0, 1, 7, 8, 9]), (3, rk [0, 1, 5, 7, 8]), (4, rk [0, 1, 5, 7, 8, 16]), (5, rk [4]), (6, rk [0, 1, 7, 8]), (7, rk [4])]
def slices_IndexFunc_LLint_Lint.b0 : C := .seq (.reg 0 [za 0 9 .lss 8 7, .g (.keep [0, 1, 7, 8, 9])]) (.seq (.cond (.tmp 9) (.skip) (.exit 0)) (.seq (.block 1 (.seq (.reg 0 [zm 0 10 8, zm 1 5 10, .g (.keep [0, 1, 5, 7, 8])]) (.seq (.reg 0 [zm 0 11 1, zm 1 12 0, zm 2 13 5, zx 3 14 1 12 13, zl 4 15 1 14, .o 5 (.callv (some 16) (.tmp 11) [(.tmp 15)]), .g (.keep [0, 1, 5, 7, 8, 16])]) (.cond (.tmp 16) (.seq (.reg 0 [zm 0 17 5, zm 1 4 17, .g (.keep [4])]) (.ret)) (.skip))))) (.reg 0 [zd 0 18 .add 8 1, zm 1 8 18, .g (.keep [0, 1, 7, 8])])))
def slices_IndexFunc_LLint_Lint.ir : C := .seq (.reg 0 [zk 0 4 0, .g (.keep [0, 1])]) (.seq (.seq (.reg 0 [zm 0 6 0, zn 1 7 6, zk 2 8 0, .g (.keep [0, 1, 7, 8])]) (.block 0 (.loop slices_IndexFunc_LLint_Lint.b0))) (.seq (.reg 0 [zk 0 4 (-1), .g (.keep [4])]) (.ret)))
def slices_IndexFunc_LLint_Lint.rs : List Rs := [.sl 4]
theorem slices_IndexFunc_LLint_Lint.ok : isFn Tryz.prog slices_IndexFunc_LLint_Lint.id 19 slices_IndexFunc_LLint_Lint.ann slices_IndexFunc_LLint_Lint.ir slices_IndexFunc_LLint_Lint.rs := ⟨Tryz.f126, _, Tryz.func126, rfl, rfl, by kernel_rfl, by kernel_rfl⟩
-- hallmark/model.is
def model_is.ann : List (Nat × RA) := [(0, rk [0, 1, 2]), (1, rk [1, 2, 7]), (2, rk [1, 2, 7, 8]), (3, rk [6]), (4, rk [1, 2, 13]), (5, rk [6]), (6, rk [6])]
def model_is.ir : C := .seq (.reg 0 [zb 0 6 false, .g (.keep [0, 1, 2])]) (.seq (.seq (.reg 0 [zm 0 7 0, .g (.keep [1, 2, 7])]) (.block 0 (.seq (.reg 0 [zd 0 9 .eql 7 1, zm 1 8 9, .g (.keep [1, 2, 7, 8])]) (.cond (.tmp 8) (.seq (.reg 0 [zm 0 10 1, zm 1 11 2, za 2 12 .leq 10 11, zm 3 6 12, .g (.keep [6])]) (.ret)) (.seq (.reg 0 [zd 0 14 .eql 7 3, zm 1 13 14, .g (.keep [1, 2, 13])]) (.cond (.tmp 13) (.seq (.reg 0 [zm 0 15 1, zm 1 16 2, za 2 17 .geq 15 16, zm 3 6 17, .g (.keep [6])]) (.ret)) (.skip))))))) (.seq (.reg 0 [zm 0 18 1, zm 1 19 2, za 2 20 .eql 18 19, zm 3 6 20, .g (.keep [6])]) (.ret)))
def model_is.rs : List Rs := [.sl 6]
theorem model_is.ok : isFn Tryz.prog model_is.id 21 model_is.ann model_is.ir model_is.rs := ⟨Tryz.f127, _, Tryz.func127, rfl, rfl, by kernel_rfl, by kernel_rfl⟩
-- slices.Compact[[]int,int]
def slices_Compact_Lint_int.ann : List (Nat × RA) := [(0, rk [0]), (1, rk [0, 8]), (2, rk [2]), (3, rk [0, 3]), (4, rk [0, 3, 13]), (5, rk [0, 3]), (6, ro [0, 3, 25] [0, 1, 2, 3, 4, 5, 6, 7, 8, 9]), (7, rk [0, 3, 4]), (8, rk [0, 3, 4, 5]), (9, rk [0, 3, 4, 5, 32]), (10, rk [0, 3, 4, 5]), (11, ro [0, 3, 4, 5, 44] [0, 1, 2, 3, 4, 5, 6, 7, 8, 9]), (12, rk [0, 3, 4, 5]), (13, rk [0, 3, 4, 5]), (14, rk [0, 3]), (15, rk [2]), (16, rk [2])]
def slices_Compact_Lint_int.b1 : C := .seq (.seq (.reg 0 [zm 0 29 5, zm 1 30 4, zn 2 31 30, za 3 32 .lss 29 31, .g (.keep [0, 3, 4, 5, 32])]) (.cond (.tmp 32) (.skip) (.exit 2))) (.seq (.block 3 (.seq (.reg 0 [zm 0 35 4, zm 1 36 5, zx 2 37 1 35 36, zl 3 38 1 37, zm 4 39 4, zm 5 40 5, zd 6 41 .sub 40 1, zx 7 42 1 39 41, zl 8 43 1 42, za 9 44 .neq 38 43, .g (.keep [0, 3, 4, 5, 44])]) (.cond (.tmp 44) (.seq (.reg 0 [zm 0 45 0, zm 1 46 3, zm 2 47 4, zm 3 48 5, zx 4 49 1 47 48, zl 5 50 1 49, zx 6 51 1 45 46, .o 7 (.store [] 1 (.tmp 51) (.tmp 50)), .g (.keep [0, 3, 4, 5])]) (.reg 0 [zm 0 52 3, zd 1 53 .add 52 1, zm 2 3 53, .g (.keep [0, 3, 4, 5])])) (.skip)))) (.reg 0 [zm 0 33 5, zd 1 34 .add 33 1, zm 2 5 34, .g (.keep [0, 3, 4, 5])]))
def slices_Compact_Lint_int.b0 : C := .seq (.seq (.reg 0 [zm 0 10 3, zm 1 11 0, zn 2 12 11, za 3 13 .lss 10 12, .g (.keep [0, 3, 13])]) (.cond (.tmp 13) (.skip) (.exit 0))) (.seq (.block 1 (.seq (.reg 0 [zm 0 16 0, zm 1 17 3, zx 2 18 1 16 17, zl 3 19 1 18, zm 4 20 0, zm 5 21 3, zd 6 22 .sub 21 1, zx 7 23 1 20 22, zl 8 24 1 23, za 9 25 .eql 19 24, .g (.keep [0, 3, 25])]) (.cond (.tmp 25) (.seq (.reg 0 [zm 0 26 0, zm 1 27 3, .o 2 (.lt (some 28) (.slSl 1 (.tmp 26) (some (.tmp 27)) none)), zm 3 4 28, .g (.keep [0, 3, 4])]) (.seq (.seq (.reg 0 [zk 0 5 1, .g (.keep [0, 3, 4, 5])]) (.block 2 (.loop slices_Compact_Lint_int.b1))) (.seq (.reg 0 [zm 0 54 0, zm 1 55 3, .o 2 (.lt (some 56) (.slSl 1 (.tmp 54) (some (.tmp 55)) none)), .o 3 (.clr none 1 [.a (.int .i64 0)] (.tmp 56)), .g (.keep [0, 3])]) (.seq (.reg 0 [zm 0 57 0, zm 1 58 3, .o 2 (.lt (some 59) (.slSl 1 (.tmp 57) none (some (.tmp 58)))), zm 3 2 59, .g (.keep [2])]) (.ret))))) (.skip)))) (.reg 0 [zm 0 14 3, zd 1 15 .add 14 1, zm 2 3 15, .g (.keep [0, 3])]))
def slices_Compact_Lint_int.ir : C := .seq (.reg 0 [.o 0 (.lt (some 2) (.mov (.const (.slice none 0 0)))), .g (.keep [0])]) (.seq (.seq (.reg 0 [zm 0 6 0, zn 1 7 6, zd 2 8 .lss 7 2, .g (.keep [0, 8])]) (.cond (.tmp 8) (.seq (.reg 0 [zm 0 9 0, zm 1 2 9, .g (.keep [2])]) (.ret)) (.skip))) (.seq (.seq (.reg 0 [zk 0 3 1, .g (.keep [0, 3])]) (.block 0 (.loop slices_Compact_Lint_int.b0))) (.seq (.reg 0 [zm 0 60 0, zm 1 2 60, .g (.keep [2])]) (.ret))))
def slices_Compact_Lint_int.rs : List Rs := [.sl 2]
theorem slices_Compact_Lint_int.ok : isFn Tryz.prog slices_Compact_Lint_int.id 61 slices_Compact_Lint_int.ann slices_Compact_Lint_int.ir slices_Compact_Lint_int.rs := ⟨Tryz.f129, _, Tryz.func129, rfl, rfl, by kernel_rfl, by kernel_rfl⟩
-- hallmark/model.table$1
def model_table_1.ann : List (Nat × RA) := [(0, rk [0, 1]), (1, rk [3])]
def model_table_1.ir : C := .seq (.reg 0 [zb 0 3 false, .g (.keep [0, 1])]) (.seq (.reg 0 [zm 0 4 0, zl 1 5 1 1, .o 2 (.call (some 6) slices_Equal_Lint_int.id [(.tmp 4), (.tmp 5)]), zm 3 3 6, .g (.keep [3])]) (.ret))
def model_table_1.rs : List Rs := [.sl 3]
theorem model_table_1.ok : isFn Tryz.prog model_table_1.id 7 model_table_1.ann model_table_1.ir model_table_1.rs := ⟨Tryz.f130, _, Tryz.func130, rfl, rfl, by kernel_rfl, by kernel_rfl⟩
-- slices.Equal[[]int,int]
def slices_Equal_Lint_int.ann : List (Nat × RA) := [(0, rk [0, 1]), (1, rk [0, 1, 10]), (2, rk [4]), (3, rk [0, 1, 12, 13]), (4, rk [0, 1, 12, 13, 14]), (5, rk [0, 1, 5, 12, 13]), (6, ro [0, 1, 12, 13, 24] [0, 1, 2, 3, 4, 5, 6, 7, 8]), (7, rk [4]), (8, rk [0, 1, 12, 13]), (9, rk [4])]
def slices_Equal_Lint_int.b0 : C := .seq (.reg 0 [za 0 14 .lss 13 12, .g (.keep [0, 1, 12, 13, 14])]) (.seq (.cond (.tmp 14) (.skip) (.exit 0)) (.seq (.block 1 (.seq (.reg 0 [zm 0 15 13, zm 1 5 15, .g (.keep [0, 1, 5, 12, 13])]) (.seq (.reg 0 [zm 0 16 0, zm 1 17 5, zx 2 18 1 16 17, zl 3 19 1 18, zm 4 20 1, zm 5 21 5, zx 6 22 1 20 21, zl 7 23 1 22, za 8 24 .neq 19 23, .g (.keep [0, 1, 12, 13, 24])]) (.cond (.tmp 24) (.seq (.reg 0 [zb 0 4 false, .g (.keep [4])]) (.ret)) (.skip))))) (.reg 0 [zd 0 25 .add 13 1, zm 1 13 25, .g (.keep [0, 1, 12, 13])])))
def slices_Equal_Lint_int.ir : C := .seq (.reg 0 [zb 0 4 false, .g (.keep [0, 1])]) (.seq (.seq (.reg 0 [zm 0 6 0, zn 1 7 6, zm 2 8 1, zn 3 9 8, za 4 10 .neq 7 9, .g (.keep [0, 1, 10])]) (.cond (.tmp 10) (.seq (.reg 0 [zb 0 4 false, .g (.keep [4])]) (.ret)) (.skip))) (.seq (.seq (.reg 0 [zm 0 11 0, zn 1 12 11, zk 2 13 0, .g (.keep [0, 1, 12, 13])]) (.block 0 (.loop slices_Equal_Lint_int.b0))) (.seq (.reg 0 [zb 0 4 true, .g (.keep [4])]) (.ret))))
def slices_Equal_Lint_int.rs : List Rs := [.sl 4]
theorem slices_Equal_Lint_int.ok : isFn Tryz.prog slices_Equal_Lint_int.id 26 slices_Equal_Lint_int.ann slices_Equal_Lint_int.ir slices_Equal_Lint_int.rs := ⟨Tryz.f131, _, Tryz.func131, rfl, rfl, by kernel_rfl, by kernel_rfl⟩
-- (*hallmark/hallmarkroom.Room).con
-- hallmark/hallmarkref4.letter
-- slices.IndexFunc[[]hallmark/api.Var,hallmark/api.Var]
end Go.Abs.G

/- What the row's reading tells, as abstract values. -/
namespace Go.Abs
set_option linter.unusedVariables false

def βz : Nat → Hd := fun _ => ⟨0, 0, 0, 0, 0, false, 0, noSub⟩
def cz (w : World) : Cx := cx w.heap [] βz (fun _ => False)

theorem cz_own (w : World) (b : Nat) : ¬ (cz w).own b := by
  rintro (⟨i, e⟩ | e)
  · simp [ownsB] at e
  · exact e

theorem cz_only {w : World} {v : Value} {x : V} (h : RV (cz w) v x) : RV ((cz w).only []) v x :=
  h.mono ⟨Nat.le_refl _, fun _ _ hn => ⟨rfl, hn⟩, fun i hl => by obtain ⟨o, ho, _⟩ := hl; simp at ho, fun _ _ _ e => .inl e⟩

theorem cz_hok (w : World) : HOK w.heap [] βz (fun _ => False) :=
  ⟨fun id o h => by simp at h, fun id id' b h => by simp [ownsB] at h, fun b h => h.elim⟩

/-- What reads as a value of type t is some x's. -/
def Rd (P : Program) (t : TypeId) (n : Nat) {α : Type} (f : α → List V) (ok : α → Prop) : Prop :=
  P.cellsOf t = n ∧ ∀ (H : Type) (enc : TypeId × Value → H) (w : World) (fuel : Nat) (cs : List Value) (d : DataW H) (ps : List MemPlace), DataW.trod enc P w 0 (fun _ => true) true fuel t cs = some (d, ps) → (∀ q ∈ DataW.weights P t d, q ≤ reachBytes) →
    ∃ x, ok x ∧ (f x).length = n ∧ cs.length = n ∧ ∀ (i : Nat) (v : Value) (y : V), cs[i]? = some v → (f x)[i]? = some y → v.oneCell' = true ∧ RV (cz w) v y

section
variable {P : Program} {t : TypeId}

theorem one_get {v0 : Value} {y0 : V} {w : World} (h1 : v0.oneCell' = true) (h2 : RV (cz w) v0 y0) : ∀ (i : Nat) (v : Value) (y : V), [v0][i]? = some v → [y0][i]? = some y → v.oneCell' = true ∧ RV (cz w) v y := by
  intro i v y a b
  cases i with
  | zero => simp at a b; subst a; subst b; exact ⟨h1, h2⟩
  | succ i => simp at a

theorem Rd.int {k : IntKind} (hu : P.underlying t = some (.int k)) (hc : P.cellsOf t = 1) : Rd P t 1 (fun n : Int => [.a (.int k n)]) (fun n => (Lit.int k n).wf = true) := by
  refine ⟨hc, fun H enc w fuel cs d ps h hwt => ?_⟩
  cases fuel with
  | zero => simp [DataW.trod] at h
  | succ fuel =>
    unfold DataW.trod at h
    rw [hu] at h
    rcases cs with _ | ⟨v, _ | ⟨v2, cs⟩⟩
    · cases h
    · cases v <;> first | cases h | skip
      next k' n =>
      simp only at h
      split at h
      · next hk =>
        obtain ⟨rfl, hk⟩ := hk
        exact ⟨n, hk, rfl, rfl, one_get rfl .a⟩
      · cases h
    · simp at h

theorem Rd.bool (hu : P.underlying t = some .bool) (hc : P.cellsOf t = 1) : Rd P t 1 (fun b : Bool => [.a (.bool b)]) (fun _ => True) := by
  refine ⟨hc, fun H enc w fuel cs d ps h hwt => ?_⟩
  cases fuel with
  | zero => simp [DataW.trod] at h
  | succ fuel =>
    unfold DataW.trod at h
    rw [hu] at h
    rcases cs with _ | ⟨v, _ | ⟨v2, cs⟩⟩
    · cases h
    · cases v <;> first | cases h | skip
      next b => exact ⟨b, trivial, rfl, rfl, one_get rfl .a⟩
    · simp at h

theorem Rd.str (hu : P.underlying t = some .string) (hc : P.cellsOf t = 1) : Rd P t 1 (fun s : ByteArray => [.a (.string s)]) (fun s => s.size ≤ maxLen ∧ s.size ≤ reachBytes) := by
  refine ⟨hc, fun H enc w fuel cs d ps h hwt => ?_⟩
  cases fuel with
  | zero => simp [DataW.trod] at h
  | succ fuel =>
    unfold DataW.trod at h
    rw [hu] at h
    rcases cs with _ | ⟨v, _ | ⟨v2, cs⟩⟩
    · cases h
    · cases v <;> first | cases h | skip
      next s =>
      simp only at h
      split at h
      · next hs =>
        injection h with h
        injection h with h1 h2
        subst h1
        exact ⟨s, ⟨hs, by have := hwt s.data.toList.length (by simp [DataW.weights]); simpa using this⟩, rfl, rfl, one_get rfl .a⟩
      · cases h
    · simp at h

theorem cells?_get {w : World} {a : Addr} {n : Nat} {cs : List Value} (h : w.cells? 0 a n = some cs) : cs.length = n ∧ ∀ (i : Nat) (v : Value), cs[i]? = some v → look w.heap a.block (a.off + i) = some v ∧ (i = 0 → a.spot = none) := by
  unfold World.cells? at h
  rw [if_pos (Nat.zero_le _)] at h
  obtain ⟨h1, h2⟩ := mapM_some h
  have hl : cs.length = n := by rw [h1]; simp
  refine ⟨hl, fun i v hv => ?_⟩
  have hi : i < n := by rw [← hl]; exact lt_of_get hv
  obtain ⟨y, hy, hc⟩ := h2 i i (List.getElem?_range hi)
  rw [hv] at hy; injection hy with hy; subst hy
  have hadd : (a.add i).block = a.block ∧ ((a.add i).spot = none → (i = 0 → a.spot = none) ∧ (a.add i).off = a.off + i) := by
    unfold Addr.add
    split
    · next e => subst e; exact ⟨rfl, fun h => ⟨fun _ => h, by simp⟩⟩
    · next e => exact ⟨rfl, fun h => ⟨fun e' => (e e').elim, rfl⟩⟩
  unfold World.cell? at hc
  rw [hadd.1] at hc
  split at hc
  · next c _ _ hb =>
    split at hc
    · cases hc
    · next hs =>
      have hs : (a.add i).spot = none := by simpa using hs
      obtain ⟨g1, g2⟩ := hadd.2 hs
      rw [g2] at hc
      exact ⟨by unfold look; rw [hb]; exact hc, g1⟩
  · cases hc

theorem all_choice {α β : Type} {R : Nat → α → β → Prop} : ∀ (l : List α) (k : Nat), (∀ (i : Nat) (x : α), l[i]? = some x → ∃ y, R (k + i) x y) → ∃ r : List β, r.length = l.length ∧ ∀ (i : Nat) (x : α) (y : β), l[i]? = some x → r[i]? = some y → R (k + i) x y := by
  intro l
  induction l with
  | nil => intro k _; exact ⟨[], rfl, fun i x y h => by simp at h⟩
  | cons a l ih =>
    intro k h
    obtain ⟨y, hy⟩ := h 0 a rfl
    obtain ⟨r, h1, h2⟩ := ih (k + 1) fun i x hx => by
      obtain ⟨y, hy⟩ := h (i + 1) x hx
      exact ⟨y, by rw [show k + 1 + i = k + (i + 1) from by omega]; exact hy⟩
    refine ⟨y :: r, by simp [h1], fun i x z hx hz => ?_⟩
    cases i with
    | zero => simp at hx hz; subst hx; subst hz; exact hy
    | succ i =>
      have := h2 i x z (by simpa using hx) (by simpa using hz)
      rw [show k + (i + 1) = k + 1 + i from by omega]; exact this

theorem weightsAll_mem {H : Type} {P : Program} {e : TypeId} {l : List (DataW H)} {d : DataW H} {q : Nat} (hd : d ∈ l) (hq : q ∈ DataW.weights P e d) : q ∈ DataW.weightsAll P e l := by
  induction l with
  | nil => cases hd
  | cons a l ih =>
    simp only [DataW.weightsAll, List.mem_append]
    rcases List.mem_cons.1 hd with rfl | hd
    · exact .inl hq
    · exact .inr (ih hd)

theorem Rd.slice {e : TypeId} {n : Nat} {α : Type} {f : α → List V} {ok : α → Prop} (hu : P.underlying t = some (.slice e)) (hc : P.cellsOf t = 1) (hn : 0 < n) (he : Rd P e n f ok) :
    Rd P t 1 (fun l : List α => [.view n (l.map f)]) (fun l => l.length ≤ maxLen ∧ l.length * P.bytesOf e ≤ reachBytes ∧ ∀ x ∈ l, ok x) := by
  refine ⟨hc, fun H enc w fuel cs d ps h hwt => ?_⟩
  obtain ⟨hen, hel⟩ := he
  cases fuel with
  | zero => simp [DataW.trod] at h
  | succ fuel =>
    unfold DataW.trod at h
    rw [hu] at h
    rcases cs with _ | ⟨v, _ | ⟨v2, cs⟩⟩
    · cases h
    · cases v <;> first | cases h | skip
      next base len cap =>
      cases base with
      | none =>
        cases len <;> cases cap <;> first | cases h | skip
        exact ⟨[], ⟨Nat.zero_le _, by simp, by simp⟩, rfl, rfl, one_get rfl .nilv⟩
      | some a =>
        simp only at h
        split at h
        · next hg =>
          obtain ⟨_, hlc, hcm⟩ := hg
          simp only [Option.bind_eq_some_iff, Option.map_eq_some_iff] at h
          obtain ⟨elems, h1, rest, _, hd⟩ := h
          injection hd with hd1 hd2
          subst hd1
          simp only [DataW.weights, hu, List.mem_cons, List.mem_append] at hwt
          obtain ⟨g1, g2⟩ := mapM_some h1
          have hlen : elems.length = len := by rw [g1]; simp
          have hall : ∀ (i : Nat) (x : DataW H × List MemPlace), elems[i]? = some x → ∃ y : α, ok y ∧ (f y).length = n ∧ ∀ (j : Nat) (z : V), (f y)[j]? = some z → ∃ v, look w.heap a.block (a.off + (0 + i) * n + j) = some v ∧ (0 + i = 0 → j = 0 → a.spot = none) ∧ v.oneCell' = true ∧ RV (cz w) v z := by
            intro i x hx
            have hi : i < len := by rw [← hlen]; exact lt_of_get hx
            obtain ⟨y, hy, hc⟩ := g2 i i (List.getElem?_range hi)
            rw [hx] at hy; injection hy with hy; subst hy
            rw [Option.bind_eq_some_iff] at hc
            obtain ⟨ci, hci, htr⟩ := hc
            rw [hen] at hci
            obtain ⟨c1, c2⟩ := cells?_get hci
            obtain ⟨y, k1, k2, k3, k4⟩ := hel H enc w fuel ci _ _ htr fun q hq => hwt q (.inr (.inl (weightsAll_mem (List.mem_map_of_mem (List.mem_of_getElem? hx)) hq)))
            refine ⟨y, k1, k2, fun j z hz => ?_⟩
            have hj : j < ci.length := by rw [k3, ← k2]; exact lt_of_get hz
            have hv := List.getElem?_eq_getElem hj
            obtain ⟨m1, m2⟩ := k4 j _ z hv hz
            obtain ⟨q1, q2⟩ := c2 j _ hv
            have hadd : (a.add (i * n)).block = a.block ∧ (a.add (i * n)).off = a.off + i * n := by
              unfold Addr.add
              split
              · next e => rw [e]; exact ⟨rfl, by simp⟩
              · exact ⟨rfl, rfl⟩
            rw [hadd.1, hadd.2] at q1
            refine ⟨_, by rw [Nat.zero_add]; exact q1, fun e0 e1 => ?_, m1, m2⟩
            have := q2 e1
            rw [show i * n = 0 from by rw [show i = 0 from by omega, Nat.zero_mul]] at this
            unfold Addr.add at this
            simpa using this
          obtain ⟨xs, x1, x2⟩ := all_choice (R := fun i x y => ok y ∧ (f y).length = n ∧ ∀ (j : Nat) (z : V), (f y)[j]? = some z → ∃ v, look w.heap a.block (a.off + i * n + j) = some v ∧ (i = 0 → j = 0 → a.spot = none) ∧ v.oneCell' = true ∧ RV (cz w) v z) elems 0 hall
          have hx : ∀ (i : Nat) (y : α), xs[i]? = some y → ok y ∧ (f y).length = n ∧ ∀ (j : Nat) (z : V), (f y)[j]? = some z → ∃ v, look w.heap a.block (a.off + i * n + j) = some v ∧ (i = 0 → j = 0 → a.spot = none) ∧ v.oneCell' = true ∧ RV (cz w) v z := by
            intro i y hy
            have hi : i < elems.length := by rw [← x1]; exact lt_of_get hy
            have := x2 i _ y (List.getElem?_eq_getElem hi) hy
            rw [Nat.zero_add] at this; exact this
          refine ⟨xs, ⟨by omega, ?_, fun y hy => ?_⟩, rfl, rfl, one_get rfl ?_⟩
          · have h1 := hwt _ (.inl rfl)
            refine Nat.le_trans (Nat.mul_le_mul_right _ ?_) h1
            simp [x1]
          · obtain ⟨i, hi⟩ := List.getElem?_of_mem hy
            exact (hx i y hi).1
          · have hrow : ∀ (i : Nat) (row : List V), (xs.map f)[i]? = some row → row.length = n ∧ ∀ (j : Nat) (z : V), row[j]? = some z → ∃ v, look w.heap a.block (a.off + i * n + j) = some v ∧ (i = 0 → j = 0 → a.spot = none) ∧ v.oneCell' = true ∧ RV (cz w) v z := by
              intro i row hi
              rw [List.getElem?_map, Option.map_eq_some_iff] at hi
              obtain ⟨y, hy, rfl⟩ := hi
              exact (hx i y hy).2
            have hl2 : len = (xs.map f).length := by simp [x1, hlen]
            rw [hl2]
            refine .view (fun i j => (look w.heap a.block (a.off + i * n + j)).getD undef) (fun hne => ?_) (by rw [← hl2]; exact hlc) (fun i row hi => (hrow i row hi).1) (fun i row hi j z hz => ?_) fun i row hi j z hz => ?_
            · have h0 : ∃ row, (xs.map f)[0]? = some row := by
                cases hq : xs.map f with
                | nil => exact (hne hq).elim
                | cons r l => exact ⟨r, rfl⟩
              obtain ⟨row, h0⟩ := h0
              obtain ⟨r1, r2⟩ := hrow 0 row h0
              obtain ⟨v, l1, l2, _⟩ := r2 0 _ (List.getElem?_eq_getElem (by omega))
              refine ⟨cz_own w _, ?_, l2 rfl rfl⟩
              unfold look at l1
              split at l1
              · next hb => exact hp_lt hb
              · cases l1
            · obtain ⟨v, l1, _, l3, _⟩ := (hrow i row hi).2 j z hz
              refine ⟨by show look w.heap _ _ = _; rw [l1]; rfl, by rw [l1]; exact l3⟩
            · obtain ⟨v, l1, _, _, l4⟩ := (hrow i row hi).2 j z hz
              rw [l1]; exact cz_only l4
        · cases h
    · simp at h

end
end Go.Abs

/- What the row's reading tells: structs, arguments. -/
namespace Go.Abs
set_option linter.unusedVariables false

/-- The same of a struct's fields from cell k on. -/
def RdF (P : Program) (fs : List Field) (k : Nat) (n : Nat) {α : Type} (f : α → List V) (ok : α → Prop) : Prop :=
  ∀ (H : Type) (enc : TypeId × Value → H) (w : World) (fuel : Nat) (cs : List Value) (xs : List (DataW H × List MemPlace)), fs.mapM (fun fd => DataW.trod enc P w 0 (fun _ => true) true fuel fd.type ((cs.drop fd.offset).take (P.cellsOf fd.type))) = some xs → (∀ q ∈ DataW.weightsEach P (fs.map (·.type)) (xs.map (·.1)), q ≤ reachBytes) →
    ∃ x, ok x ∧ (f x).length = n ∧ ∀ (i : Nat) (v : Value) (y : V), cs[k + i]? = some v → (f x)[i]? = some y → v.oneCell' = true ∧ RV (cz w) v y

theorem RdF.nil {P : Program} {k : Nat} : RdF P [] k 0 (fun _ : Unit => []) (fun _ => True) :=
  fun H enc w fuel cs xs h _ => ⟨(), trivial, rfl, fun i v y _ h => by simp at h⟩

theorem RdF.cons {P : Program} {fd : Field} {fs : List Field} {k n m : Nat} {α β : Type} {f : α → List V} {ok : α → Prop} {g : β → List V} {ok' : β → Prop} (ho : fd.offset = k) (h1 : Rd P fd.type n f ok) (h2 : RdF P fs (k + n) m g ok') :
    RdF P (fd :: fs) k (n + m) (fun p : α × β => f p.1 ++ g p.2) (fun p => ok p.1 ∧ ok' p.2) := by
  intro H enc w fuel cs xs h hwt
  rw [List.mapM_cons] at h
  simp only [bind, Option.bind_eq_some_iff, pure, Option.some.injEq] at h
  obtain ⟨d, hd, xs', hxs, rfl⟩ := h
  simp only [List.map_cons, DataW.weightsEach, List.mem_append] at hwt
  obtain ⟨x, a1, a2, a3, a4⟩ := h1.2 H enc w fuel _ _ _ hd fun q hq => hwt q (.inl hq)
  obtain ⟨y, b1, b2, b3⟩ := h2 H enc w fuel cs xs' hxs fun q hq => hwt q (.inr hq)
  refine ⟨(x, y), ⟨a1, b1⟩, by simp [a2, b2], fun i v z hv hz => ?_⟩
  rw [List.getElem?_append] at hz
  split at hz
  · next hi =>
    refine a4 i v z ?_ hz
    rw [List.getElem?_take, if_pos (by rw [h1.1, ← a2]; exact hi), List.getElem?_drop, ho]
    exact hv
  · next hi =>
    refine b3 (i - (f x).length) v z ?_ hz
    have hi : ¬ i < (f x).length := hi
    rw [← hv]; congr 1; omega

theorem Rd.struct {P : Program} {t : TypeId} {fs : Array Field} {n : Nat} {α : Type} {f : α → List V} {ok : α → Prop} (hu : P.underlying t = some (.struct fs)) (hc : P.cellsOf t = n) (hf : RdF P fs.toList 0 n f ok) : Rd P t n f ok := by
  refine ⟨hc, fun H enc w fuel cs d ps h hwt => ?_⟩
  cases fuel with
  | zero => simp [DataW.trod] at h
  | succ fuel =>
    have key : cs.length = P.cellsOf t ∧ ∃ xs, d = .agg (xs.map (·.1)) ∧ fs.toList.mapM (fun fd => DataW.trod enc P w 0 (fun _ => true) true fuel fd.type ((cs.drop fd.offset).take (P.cellsOf fd.type))) = some xs := by
      unfold DataW.trod at h
      rw [hu] at h
      simp only at h
      split at h
      · next hl =>
        rw [Option.map_eq_some_iff] at h
        obtain ⟨xs, h1, h2⟩ := h
        injection h2 with h2 h3
        exact ⟨hl, xs, h2.symm, h1⟩
      · cases h
    obtain ⟨hl, xs, rfl, hx⟩ := key
    obtain ⟨x, a1, a2, a3⟩ := hf H enc w fuel cs xs hx fun q hq => hwt q (by simp only [DataW.weights, hu]; exact hq)
    exact ⟨x, a1, a2, by rw [hl, hc], fun i v y hv hy => a3 i v y (by rw [Nat.zero_add]; exact hv) hy⟩

theorem Rd.map {P : Program} {t : TypeId} {n : Nat} {α β : Type} {f : α → List V} {ok : α → Prop} {g : β → List V} {ok' : β → Prop} (h : Rd P t n f ok) (hm : ∀ x, ok x → ∃ y, ok' y ∧ g y = f x) : Rd P t n g ok' := by
  refine ⟨h.1, fun H enc w fuel cs d ps ht hwt => ?_⟩
  obtain ⟨x, a1, a2, a3, a4⟩ := h.2 H enc w fuel cs d ps ht hwt
  obtain ⟨y, b1, b2⟩ := hm x a1
  exact ⟨y, b1, by rw [b2]; exact a2, a3, by rw [b2]; exact a4⟩

/-- An argument of one cell. -/
theorem Rd.arg1 {P : Program} {t : TypeId} {α : Type} {f : α → V} {ok : α → Prop} (h : Rd P t 1 (fun x => [f x]) ok) {H : Type} {enc : TypeId × Value → H} {w : World} {v : Value} {d : DataW H} {ps : List MemPlace} (ht : DataW.Trod enc P w 0 (fun _ => true) true t v d ps)
    (hwt : ∀ q ∈ DataW.weights P t d, q ≤ reachBytes) (hone : v.oneCell' = true) : ∃ x, ok x ∧ RV (cz w) v (f x) := by
  obtain ⟨fuel, ht⟩ := ht
  obtain ⟨x, a1, a2, a3, a4⟩ := h.2 H enc w fuel _ d ps ht hwt
  refine ⟨x, a1, (a4 0 v (f x) ?_ rfl).2⟩
  rw [cells_one hone]; rfl

/-- An argument of many. -/
theorem Rd.argN {P : Program} {t : TypeId} {n : Nat} {α : Type} {f : α → List V} {ok : α → Prop} (h : Rd P t n f ok) {H : Type} {enc : TypeId × Value → H} {w : World} {cs : Array Value} {d : DataW H} {ps : List MemPlace} (ht : DataW.Trod enc P w 0 (fun _ => true) true t (.agg cs) d ps) (hwt : ∀ q ∈ DataW.weights P t d, q ≤ reachBytes) :
    ∃ x, ok x ∧ RV (cz w) (.agg cs) (.agg (f x)) := by
  obtain ⟨fuel, ht⟩ := ht
  obtain ⟨x, a1, a2, a3, a4⟩ := h.2 H enc w fuel _ d ps ht hwt
  have a3 : cs.size = n := by simpa [Value.cells] using a3
  refine ⟨x, a1, .agg (by rw [a3, a2]) (fun i v hv => ?_) fun i v y hv hy => (a4 i v y (by simpa [Value.cells] using hv) hy).2⟩
  have hi : i < (f x).length := by rw [a2, ← a3]; exact (Array.getElem?_eq_some_iff.1 hv).1
  exact (a4 i v _ (by simpa [Value.cells] using hv) (List.getElem?_eq_getElem hi)).1

theorem weights_cons {H : Type} {P : Program} {t : TypeId} {ts : List TypeId} {d : DataW H} {ds : List (DataW H)} (h : (DataW.weightsEach P (t :: ts) (d :: ds)).all (· ≤ reachBytes) = true) :
    (∀ q ∈ DataW.weights P t d, q ≤ reachBytes) ∧ (DataW.weightsEach P ts ds).all (· ≤ reachBytes) = true := by
  simp only [DataW.weightsEach, List.all_append, Bool.and_eq_true] at h
  exact ⟨fun q hq => by simpa using List.all_eq_true.1 h.1 q hq, h.2⟩

/-- A law's call. -/
theorem DC.law {P : Program} {f : FuncId} {xs : List V} (h : DC P f xs [] fun r _ => r = .bool true) {W : World} {args : Array Value} (hr : RVs (cz W) args xs) :
    Calls P f args W fun e W' => e = .returned (.bool true) ∧ RowKit.Below W.heap.size W W' := by
  refine (h W βz (fun _ => False) args (cz_hok W) hr).mono fun e W' hres => ?_
  obtain ⟨r, x, H', β', rfl, adv, hx, rfl⟩ := hres
  rw [hx.of_a]
  refine ⟨rfl, adv.ext.os, adv.ext.tape, adv.ext.output, adv.ext.size, fun k hk => adv.ext.block k hk fun ⟨i, e⟩ => ?_⟩
  simp [ownsB] at e

theorem RVs.cons {c : Cx} {v : Value} {x : V} {vs : Array Value} {xs : List V} (h : RV c v x) (hs : RVs c vs xs) : RVs c (#[v] ++ vs) (x :: xs) := by
  refine ⟨by simp [hs.1]; omega, fun i u y h1 h2 => ?_⟩
  cases i with
  | zero => simp [Array.getElem?_append] at h1 h2; subst h1; subst h2; exact h
  | succ i =>
    rw [Array.getElem?_append, if_neg (by simp)] at h1
    exact hs.2 i u y (by simpa using h1) (by simpa using h2)

end Go.Abs

/- The problems, as Lean data. -/
namespace Go.Abs
attribute [local simp] I.vc sub merge place

structure Var where
  name : ByteArray
  lo : Int
  hi : Int
structure Term where
  c : Int
  x : Int
structure Con where
  kind : Int
  op : Int
  terms : List Term
  k : Int
  v : Int
  x : Int
  y : Int
  xs : List Int
  table : List Int
  rows : List (List Int)
structure Model where
  vars : List Var
  cons : List Con
  hasGoal : Bool
  goal : List Term

abbrev V.i (n : Int) : V := .a (.int .i64 n)
def vInts (l : List Int) : V := .view 1 (l.map fun n => [V.i n])
def vIntss (l : List (List Int)) : V := .view 1 (l.map fun r => [vInts r])
def Term.cells (t : Term) : List V := [V.i t.c, V.i t.x]
def vTerms (l : List Term) : V := .view 2 (l.map Term.cells)
def Var.cells (v : Var) : List V := [.str v.name, V.i v.lo, V.i v.hi]
def vVars (l : List Var) : V := .view 3 (l.map Var.cells)
def Con.cells (c : Con) : List V := [V.i c.kind, V.i c.op, vTerms c.terms, V.i c.k, V.i c.v, V.i c.x, V.i c.y, vInts c.xs, vInts c.table, vIntss c.rows]
def vCons (l : List Con) : V := .view 10 (l.map Con.cells)
def Model.cells (m : Model) : List V := [vVars m.vars, vCons m.cons, .bool m.hasGoal, vTerms m.goal]

def I64 (n : Int) : Prop := -9223372036854775808 ≤ n ∧ n ≤ 9223372036854775807
def okInts (l : List Int) : Prop := l.length ≤ maxLen ∧ ∀ n ∈ l, I64 n
def okTerm (t : Term) : Prop := I64 t.c ∧ I64 t.x
def okVar (v : Var) : Prop := v.name.size ≤ maxLen ∧ I64 v.lo ∧ I64 v.hi
def okTerms (l : List Term) : Prop := l.length ≤ maxLen ∧ ∀ t ∈ l, okTerm t
def okCon (c : Con) : Prop := I64 c.kind ∧ I64 c.op ∧ okTerms c.terms ∧ I64 c.k ∧ I64 c.v ∧ I64 c.x ∧ I64 c.y ∧ okInts c.xs ∧ okInts c.table ∧ c.rows.length ≤ maxLen ∧ ∀ r ∈ c.rows, okInts r
def okModel (m : Model) : Prop := (m.vars.length ≤ maxLen ∧ ∀ v ∈ m.vars, okVar v) ∧ (m.cons.length ≤ maxLen ∧ ∀ c ∈ m.cons, okCon c) ∧ okTerms m.goal

/-- The types that the readings below speak of. -/
structure MTypes (P : Program) (tInt tBool tStr tInts tIntss tTerm tTerms tVar tVars tCon tCons tModel : TypeId) : Prop where
  bytes : 8 ≤ P.bytesOf tInt ∧ 8 ≤ P.bytesOf tInts ∧ 8 ≤ P.bytesOf tTerm ∧ 8 ≤ P.bytesOf tVar ∧ 8 ≤ P.bytesOf tCon
  int : P.underlying tInt = some (.int .i64) ∧ P.cellsOf tInt = 1
  bool : P.underlying tBool = some .bool ∧ P.cellsOf tBool = 1
  str : P.underlying tStr = some .string ∧ P.cellsOf tStr = 1
  ints : P.underlying tInts = some (.slice tInt) ∧ P.cellsOf tInts = 1
  intss : P.underlying tIntss = some (.slice tInts) ∧ P.cellsOf tIntss = 1
  term : ∃ fs, P.underlying tTerm = some (.struct fs) ∧ P.cellsOf tTerm = 2 ∧ fs.toList.map (fun f => (f.type, f.offset)) = [(tInt, 0), (tInt, 1)]
  terms : P.underlying tTerms = some (.slice tTerm) ∧ P.cellsOf tTerms = 1
  var : ∃ fs, P.underlying tVar = some (.struct fs) ∧ P.cellsOf tVar = 3 ∧ fs.toList.map (fun f => (f.type, f.offset)) = [(tStr, 0), (tInt, 1), (tInt, 2)]
  vars : P.underlying tVars = some (.slice tVar) ∧ P.cellsOf tVars = 1
  con : ∃ fs, P.underlying tCon = some (.struct fs) ∧ P.cellsOf tCon = 10 ∧ fs.toList.map (fun f => (f.type, f.offset)) = [(tInt, 0), (tInt, 1), (tTerms, 2), (tInt, 3), (tInt, 4), (tInt, 5), (tInt, 6), (tInts, 7), (tInts, 8), (tIntss, 9)]
  cons : P.underlying tCons = some (.slice tCon) ∧ P.cellsOf tCons = 1
  model : ∃ fs, P.underlying tModel = some (.struct fs) ∧ P.cellsOf tModel = 4 ∧ fs.toList.map (fun f => (f.type, f.offset)) = [(tVars, 0), (tCons, 1), (tBool, 2), (tTerms, 3)]

def fl (t : TypeId) (o : Nat) : Field := { (default : Field) with type := t, offset := o }

/-- So long is what is read, at most. -/
def maxS : Nat := 17592186044416
def zInts (l : List Int) : Prop := okInts l ∧ l.length ≤ maxS
def zTerms (l : List Term) : Prop := okTerms l ∧ l.length ≤ maxS
def zCon (c : Con) : Prop := okCon c ∧ c.terms.length ≤ maxS ∧ c.xs.length ≤ maxS ∧ c.table.length ≤ maxS ∧ c.rows.length ≤ maxS ∧ ∀ r ∈ c.rows, r.length ≤ maxS
theorem maxS_of {n b : Nat} (h : n * b ≤ reachBytes) (hb : 8 ≤ b) : n ≤ maxS := by
  have h1 : n * 8 ≤ n * b := Nat.mul_le_mul_left _ hb
  unfold reachBytes at h
  unfold maxS
  omega

theorem RdF.of_map {P : Program} {fs : List Field} {k n : Nat} {α : Type} {g : α → List V} {ok : α → Prop} (h : RdF P fs k n g ok) {gs : List Field} (he : gs.map (fun f => (f.type, f.offset)) = fs.map (fun f => (f.type, f.offset))) : RdF P gs k n g ok := by
  intro H enc w fuel cs xs hx hwt
  have ht : gs.map (·.type) = fs.map (·.type) := by have := congrArg (List.map Prod.fst) he; simpa [Function.comp_def] using this
  rw [ht] at hwt
  refine h H enc w fuel cs xs ?_ hwt
  have : ∀ (l : List Field), l.mapM (fun fd => DataW.trod enc P w 0 (fun _ => true) true fuel fd.type ((cs.drop fd.offset).take (P.cellsOf fd.type))) = (l.map fun f => (f.type, f.offset)).mapM (fun q => DataW.trod enc P w 0 (fun _ => true) true fuel q.1 ((cs.drop q.2).take (P.cellsOf q.1))) := by
    intro l
    induction l with
    | nil => rfl
    | cons a l ih => rw [List.map_cons, List.mapM_cons, List.mapM_cons, ih]
  rw [this] at hx ⊢
  rw [← he]; exact hx

section
variable {P : Program} {tInt tBool tStr tInts tIntss tTerm tTerms tVar tVars tCon tCons tModel : TypeId} (M : MTypes P tInt tBool tStr tInts tIntss tTerm tTerms tVar tVars tCon tCons tModel)
include M

theorem MTypes.rdInt : Rd P tInt 1 (fun n : Int => [V.i n]) I64 :=
  (Rd.int M.int.1 M.int.2).map fun n h => ⟨n, by
    have : (decide (IntKind.i64.min ≤ n) && decide (n ≤ IntKind.i64.max)) = true := h
    simp only [Bool.and_eq_true, decide_eq_true_eq] at this
    exact ⟨this.1, this.2⟩, rfl⟩

theorem MTypes.rdInts : Rd P tInts 1 (fun l : List Int => [vInts l]) zInts :=
  (Rd.slice M.ints.1 M.ints.2 (by omega) M.rdInt).map fun l h => ⟨l, ⟨⟨h.1, h.2.2⟩, maxS_of h.2.1 M.bytes.1⟩, rfl⟩

theorem MTypes.rdIntss : Rd P tIntss 1 (fun l : List (List Int) => [vIntss l]) (fun l => l.length ≤ maxLen ∧ l.length ≤ maxS ∧ ∀ r ∈ l, zInts r) :=
  (Rd.slice M.intss.1 M.intss.2 (by omega) M.rdInts).map fun l h => ⟨l, ⟨h.1, maxS_of h.2.1 M.bytes.2.1, h.2.2⟩, rfl⟩

theorem MTypes.rdTerm : Rd P tTerm 2 Term.cells okTerm := by
  obtain ⟨fs, h1, h2, h3⟩ := M.term
  refine (Rd.struct h1 h2 (RdF.of_map (fs := [fl tInt 0, fl tInt 1]) (.cons rfl M.rdInt (.cons rfl M.rdInt .nil)) h3)).map fun x h => ?_
  exact ⟨⟨x.1, x.2.1⟩, ⟨h.1, h.2.1⟩, rfl⟩

theorem MTypes.rdTerms : Rd P tTerms 1 (fun l : List Term => [vTerms l]) zTerms :=
  (Rd.slice M.terms.1 M.terms.2 (by omega) M.rdTerm).map fun l h => ⟨l, ⟨⟨h.1, h.2.2⟩, maxS_of h.2.1 M.bytes.2.2.1⟩, rfl⟩

theorem MTypes.rdCon : Rd P tCon 10 Con.cells zCon := by
  obtain ⟨fs, h1, h2, h3⟩ := M.con
  refine (Rd.struct h1 h2 (RdF.of_map (fs := [fl tInt 0, fl tInt 1, fl tTerms 2, fl tInt 3, fl tInt 4, fl tInt 5, fl tInt 6, fl tInts 7, fl tInts 8, fl tIntss 9])
    (.cons rfl M.rdInt (.cons rfl M.rdInt (.cons rfl M.rdTerms (.cons rfl M.rdInt (.cons rfl M.rdInt (.cons rfl M.rdInt (.cons rfl M.rdInt (.cons rfl M.rdInts (.cons rfl M.rdInts (.cons rfl M.rdIntss .nil)))))))))) h3)).map fun x h => ?_
  obtain ⟨a1, a2, a3, a4, a5, a6, a7, a8, a9, a10, _⟩ := h
  exact ⟨⟨x.1, x.2.1, x.2.2.1, x.2.2.2.1, x.2.2.2.2.1, x.2.2.2.2.2.1, x.2.2.2.2.2.2.1, x.2.2.2.2.2.2.2.1, x.2.2.2.2.2.2.2.2.1, x.2.2.2.2.2.2.2.2.2.1⟩, ⟨⟨a1, a2, a3.1, a4, a5, a6, a7, a8.1, a9.1, a10.1, fun r hr => (a10.2.2 r hr).1⟩, a3.2, a8.2, a9.2, a10.2.1, fun r hr => (a10.2.2 r hr).2⟩, rfl⟩

end
end Go.Abs


/- What the functions of the package model compute, as Lean functions. -/
namespace Go.Abs

structure Needs where
  terms : Bool
  xs : Bool
  table : Bool
  rows : Bool
  x : Bool
  y : Bool
  k : Bool
  op : Bool
  v : Bool
  deriving DecidableEq

/-- A kind's needs, as they lie in memory. -/
def Needs.cells (n : Needs) (f : FuncId) : List V := [.bool n.terms, .bool n.xs, .bool n.table, .bool n.rows, .bool n.x, .bool n.y, .bool n.k, .bool n.op, .bool n.v, .fn (.func f) [] []]

def needs (k : Int) : Option Needs :=
  if k = 1 then some ⟨true, false, false, false, false, false, true, true, false⟩
  else if k = 2 then some ⟨false, false, false, false, true, true, true, false, false⟩
  else if k = 3 then some ⟨false, true, false, false, false, false, false, false, false⟩
  else if k = 4 then some ⟨false, false, true, false, true, true, false, false, false⟩
  else if k = 5 then some ⟨false, true, false, false, false, true, false, false, false⟩
  else if k = 6 then some ⟨false, true, false, false, false, true, false, false, false⟩
  else if k = 7 then some ⟨true, false, false, false, true, false, true, false, false⟩
  else if k = 8 then some ⟨false, true, false, true, false, false, false, false, false⟩
  else if k = 9 then some ⟨false, true, false, false, false, false, true, true, true⟩
  else none

def withinB (n most : Int) : Bool := decide (-most ≤ n) && decide (n ≤ most)
def greatB (l : List Int) : Bool := l.any fun t => !withinB t 1000000000
def countsB (there : Bool) (n : Nat) : Bool := !there || (decide (1 ≤ n) && decide (n ≤ 64))
def badVarB (vars : Int) (l : List Term) : Bool := l.any fun t => decide (t.x < 0) || decide (vars ≤ t.x)
def badCoefB (l : List Term) : Bool := l.any fun t => decide (t.c = 0) || !withinB t.c 1000000
def noB (vars x : Int) : Bool := decide (x < 0) || decide (vars ≤ x)
def fieldB (c : Con) (n : Needs) : Bool :=
  (!n.op && decide (c.op ≠ 0)) || (!n.k && decide (c.k ≠ 0)) || (!n.v && decide (c.v ≠ 0)) || (!n.x && decide (c.x ≠ 0)) || (!n.y && decide (c.y ≠ 0)) ||
  (!n.terms && decide (0 < c.terms.length)) || (!n.xs && decide (0 < c.xs.length)) || (!n.table && decide (0 < c.table.length)) || (!n.rows && decide (0 < c.rows.length))
def wideB (c : Con) (n : Needs) : Bool :=
  n.rows && (decide (8 < c.xs.length) || !countsB true c.rows.length || c.rows.any fun r => decide (r.length ≠ c.xs.length))
def conN (c : Con) (vars : Int) (n : Needs) : Int :=
  if n.op && (decide (c.op < 1) || decide (3 < c.op)) then 43
  else if fieldB c n then 48
  else if !countsB n.terms c.terms.length || !countsB n.xs c.xs.length || !countsB n.table c.table.length || wideB c n then 47
  else if badVarB vars c.terms || (n.x && noB vars c.x) || (n.y && noB vars c.y) || c.xs.any (noB vars) then 44
  else if badCoefB c.terms then 45
  else if !withinB c.k 1000000000 || !withinB c.v 1000000000 || greatB c.table || c.rows.any greatB then 46
  else 0
def conB (c : Con) (vars : Int) : Int :=
  match needs c.kind with
  | none => 43
  | some n => conN c vars n

def letterB (r : Nat) : Bool := (decide (97 ≤ r) && decide (r ≤ 122)) || (decide (65 ≤ r) && decide (r ≤ 90)) || decide (r = 95)
def nameFrom (s : ByteArray) : Nat → Nat → Bool
  | 0, _ => true
  | f + 1, pos => if pos < s.size then
      (if !letterB (Utf8.decode s pos).1 && (decide (pos = 0) || decide ((Utf8.decode s pos).1 < 48) || decide (57 < (Utf8.decode s pos).1)) then false else nameFrom s f (pos + (Utf8.decode s pos).2))
    else true
def nameB (s : ByteArray) : Bool := nameFrom s (s.size + 1) 0 && decide (1 ≤ s.size) && decide (s.size ≤ 16)

def varB (l : List Var) (i : Nat) (v : Var) : Int :=
  if !nameB v.name || (l.take i).any fun w => decide (w.name = v.name) then 41
  else if !withinB v.lo 1000000000 || !withinB v.hi 1000000000 || decide (v.hi < v.lo) || decide (64 ≤ v.hi - v.lo) then 42
  else 0

def goalB (m : Model) : Int :=
  if !m.hasGoal && decide (0 < m.goal.length) then 48
  else if !countsB m.hasGoal m.goal.length then 47
  else if badVarB m.vars.length m.goal then 44
  else if badCoefB m.goal then 45
  else 0

/-- The first place of which something else than 0 is told. -/
def firstBad {α : Type} (f : Nat → α → Int) : Nat → List α → Option (Nat × Int)
  | _, [] => none
  | i, x :: l => if f i x = 0 then firstBad f (i + 1) l else some (i, f i x)

def checkB (m : Model) : Int × Int :=
  if m.vars.length = 0 ∨ 32 < m.vars.length then (0, 40)
  else match firstBad (varB m.vars) 0 m.vars with
    | some (i, e) => ((i : Int), e)
    | none => if 64 < m.cons.length then ((m.vars.length : Int), 49)
      else match firstBad (fun _ c => conB c m.vars.length) 0 m.cons with
        | some (i, e) => ((m.vars.length : Int) + i, e)
        | none => if goalB m = 0 then (0, 0) else ((m.vars.length : Int) + m.cons.length, goalB m)

def rightB (m : Model) : Bool := decide ((checkB m).2 = 0)

end Go.Abs

/- Worth, Floor, Ceil: plain laws. -/
namespace Go.Abs

def sumI (g : Int → Int) (l : List Term) : Int := (l.map fun t => t.c * g t.x).sum
def atI (l : List Int) (x : Int) : Int := l.getD x.toNat 0
theorem mul_bound {c v : Int} (hc : -1000000 ≤ c ∧ c ≤ 1000000) (hv : -1000000000 ≤ v ∧ v ≤ 1000000000) : -1000000000000000 ≤ c * v ∧ c * v ≤ 1000000000000000 := by
  have h : (c * v).natAbs ≤ 1000000 * 1000000000 := by
    rw [Int.natAbs_mul]
    exact Nat.mul_le_mul (by omega) (by omega)
  omega

theorem firstBad_none {α : Type} {f : Nat → α → Int} : ∀ {l : List α} {i : Nat}, firstBad f i l = none → ∀ (j : Nat) (x : α), l[j]? = some x → f (i + j) x = 0 := by
  intro l
  induction l with
  | nil => intro i _ j x h; simp at h
  | cons y l ih =>
    intro i h j x hj
    simp only [firstBad] at h
    split at h
    · next h0 =>
      cases j with
      | zero => simp at hj; subst hj; simpa using h0
      | succ j =>
        have := ih h j x (by simpa using hj)
        rw [← this]; congr 1; omega
    · cases h

theorem firstBad_some {α : Type} {f : Nat → α → Int} : ∀ {l : List α} {i : Nat} {p : Nat × Int}, firstBad f i l = some p → p.2 ≠ 0 := by
  intro l
  induction l with
  | nil => intro i p h; simp [firstBad] at h
  | cons y l ih =>
    intro i p h
    simp only [firstBad] at h
    split at h
    · exact ih h
    · next h0 => cases h; exact h0

structure Right (m : Model) : Prop where
  nv : 1 ≤ m.vars.length ∧ m.vars.length ≤ 32
  nc : m.cons.length ≤ 64
  var : ∀ (i : Nat) (v : Var), m.vars[i]? = some v → varB m.vars i v = 0
  con : ∀ c ∈ m.cons, conB c m.vars.length = 0
  goal : goalB m = 0

theorem right_iff {m : Model} : rightB m = true ↔ Right m := by
  unfold rightB checkB
  simp only [decide_eq_true_eq]
  constructor
  · intro h
    split at h
    · simp at h
    · next h1 =>
      split at h
      · next p i e hp => exact absurd h (firstBad_some hp)
      · next hv =>
        split at h
        · simp at h
        · next h2 =>
          split at h
          · next p i e hp => exact absurd h (firstBad_some hp)
          · next hc =>
            split at h
            · next hg =>
              refine ⟨by omega, by omega, fun i v hi => ?_, fun c hc' => ?_, hg⟩
              · have := firstBad_none hv i v hi; simpa using this
              · obtain ⟨j, hj⟩ := List.getElem?_of_mem hc'
                have := firstBad_none hc j c hj; simpa using this
            · next hg => exact absurd h hg
  · intro h
    rw [if_neg (by have := h.nv; omega)]
    have key : ∀ {α : Type} (f : Nat → α → Int) (l : List α) (i : Nat), (∀ (j : Nat) (x : α), l[j]? = some x → f (i + j) x = 0) → firstBad f i l = none := by
      intro α f l
      induction l with
      | nil => intro i _; rfl
      | cons x l ih =>
        intro i h
        simp only [firstBad]
        rw [if_pos (by simpa using h 0 x rfl)]
        refine ih _ fun j y hj => ?_
        have := h (j + 1) y (by simpa using hj)
        rw [← this]; congr 1; omega
    rw [key _ m.vars 0 fun j x hj => by rw [Nat.zero_add]; exact h.var j x hj]
    simp only
    rw [if_neg (by have := h.nc; omega), key _ m.cons 0 fun j x hj => h.con x (List.mem_of_getElem? hj)]
    simp [h.goal]

structure VarOk (v : Var) : Prop where
  lo : -1000000000 ≤ v.lo ∧ v.lo ≤ 1000000000
  hi : -1000000000 ≤ v.hi ∧ v.hi ≤ 1000000000
  le : v.lo ≤ v.hi
  dom : v.hi - v.lo < 64

theorem VarOk.of {l : List Var} {i : Nat} {v : Var} (h : varB l i v = 0) : VarOk v := by
  unfold varB at h
  split at h
  · cases h
  · split at h
    · cases h
    · next h2 =>
      simp only [withinB, Bool.or_eq_true, Bool.not_eq_true', Bool.and_eq_false_iff, decide_eq_true_eq, decide_eq_false_iff_not, not_or, Bool.not_eq_false] at h2
      constructor <;> omega

structure TermOk (vars : Nat) (t : Term) : Prop where
  x : 0 ≤ t.x ∧ t.x < vars
  c : -1000000 ≤ t.c ∧ t.c ≤ 1000000 ∧ t.c ≠ 0

theorem TermOk.of {vars : Nat} {l : List Term} (h1 : badVarB vars l = false) (h2 : badCoefB l = false) : ∀ t ∈ l, TermOk vars t := by
  intro t ht
  unfold badVarB at h1
  unfold badCoefB at h2
  rw [List.any_eq_false] at h1 h2
  have h1 := h1 t ht
  have h2 := h2 t ht
  simp only [withinB, Bool.or_eq_true, Bool.not_eq_true', Bool.and_eq_false_iff, decide_eq_true_eq, decide_eq_false_iff_not, not_or, Bool.not_eq_false] at h1 h2
  constructor <;> omega

theorem Right.terms {m : Model} (h : Right m) : (∀ t ∈ m.goal, TermOk m.vars.length t) ∧ m.goal.length ≤ 64 := by
  have hg := h.goal
  unfold goalB at hg
  split at hg
  · cases hg
  · next h1 =>
    split at hg
    · cases hg
    · next h2 =>
      split at hg
      · cases hg
      · next h3 =>
        split at hg
        · cases hg
        · next h4 =>
          refine ⟨TermOk.of (by simpa using h3) (by simpa using h4), ?_⟩
          simp [countsB] at h1 h2
          cases hh : m.hasGoal
          · simp [h1 hh]
          · have := h2 hh
            omega

/-- Values within the bounds. -/
def Within (m : Model) (l : List Int) : Prop := l.length = m.vars.length ∧ ∀ (i : Nat) (v : Var), m.vars[i]? = some v → v.lo ≤ l.getD i 0 ∧ l.getD i 0 ≤ v.hi

theorem Within.great {m : Model} (h : Right m) {l : List Int} (hw : Within m l) : greatB l = false := by
  unfold greatB
  rw [List.any_eq_false]
  intro x hx
  obtain ⟨i, hi⟩ := List.getElem?_of_mem hx
  have hlt : i < m.vars.length := by rw [← hw.1]; exact (List.getElem?_eq_some_iff.1 hi).1
  have hv := List.getElem?_eq_getElem hlt
  have h1 := hw.2 i _ hv
  have h2 := VarOk.of (h.var i _ hv)
  have h3 : l.getD i 0 = x := by simp [List.getD, hi]
  rw [h3] at h1
  have := h2.lo; have := h2.hi
  simp [withinB]
  omega

end Go.Abs

namespace Go.Abs.G
set_option linter.unusedVariables false
attribute [local simp] I.vc sub merge place

def clr (a j : Nat) : Nat := (BitVec.ofNat 32 a &&& ~~~(1#32 <<< j)).toNat
def sett (a j : Nat) : Nat := (BitVec.ofNat 32 a ||| (1#32 <<< j)).toNat

theorem clr_lt (a j : Nat) : clr a j < 4294967296 := BitVec.isLt _
theorem sett_lt (a j : Nat) : sett a j < 4294967296 := BitVec.isLt _

theorem shl_bit (j i : Nat) (hj : j < 32) : (1#32 <<< j).getLsbD i = decide (i = j) := by
  rw [BitVec.getLsbD_shiftLeft]
  by_cases h : i = j
  · subst h; simp [hj]
  · by_cases h2 : i < j
    · simp [h2, h]
    · have : i - j ≠ 0 := by omega
      simp [h, BitVec.getLsbD_one, this]
theorem clr_bit {a j : Nat} (ha : a < 4294967296) (hj : j < 32) (i : Nat) : (clr a j).testBit i = (a.testBit i && !decide (i = j)) := by
  unfold clr
  rw [BitVec.testBit_toNat, BitVec.getLsbD_and, BitVec.getLsbD_not, shl_bit j i hj, BitVec.getLsbD_ofNat]
  by_cases h : i < 32
  · simp [h]
  · have : a.testBit i = false := Nat.testBit_lt_two_pow (Nat.lt_of_lt_of_le (show a < 2 ^ 32 from ha) (Nat.pow_le_pow_right (by omega) (by omega : 32 ≤ i)))
    simp [h, this]
theorem sett_bit {a j : Nat} (ha : a < 4294967296) (hj : j < 32) (i : Nat) : (sett a j).testBit i = (a.testBit i || decide (i = j)) := by
  unfold sett
  rw [BitVec.testBit_toNat, BitVec.getLsbD_or, shl_bit j i hj, BitVec.getLsbD_ofNat]
  by_cases h : i < 32
  · simp [h]
  · have : a.testBit i = false := Nat.testBit_lt_two_pow (Nat.lt_of_lt_of_le (show a < 2 ^ 32 from ha) (Nat.pow_le_pow_right (by omega) (by omega : 32 ≤ i)))
    simp [h, this]
end Go.Abs.G


namespace Go.Abs.G
open Go.Proofs
set_option linter.unusedVariables false
set_option linter.unusedSimpArgs false
attribute [local simp] I.vc sub merge place

structure Dom where
  from' : Int
  width : Nat
  a : Nat
  b : Nat

abbrev V.w (n : Nat) : V := .a (.int .u32 n)
def Dom.row (d : Dom) : List V := [V.i d.from', V.i d.width, V.w d.a, V.w d.b]
def Dom.has (d : Dom) (i : Nat) : Bool := if i < 32 then d.a.testBit i else d.b.testBit (i - 32)
structure Dom.ok (d : Dom) : Prop where
  f : -1000000000 ≤ d.from' ∧ d.from' ≤ 1000000000
  w : d.width ≤ 64
  a : d.a < 4294967296
  b : d.b < 4294967296

end Go.Abs.G


namespace Go.Abs.G
open Go.Proofs
set_option linter.unusedVariables false
attribute [local simp] I.vc sub merge place
end Go.Abs.G


namespace Go.Abs.G
open Go.Proofs
set_option linter.unusedVariables false
attribute [local simp] I.vc sub merge place

def pop (n : Nat) : Nat := (List.range 32).countP n.testBit

end Go.Abs.G


namespace Go.Abs.G
open Go.Proofs
set_option linter.unusedVariables false
set_option linter.unusedSimpArgs false
attribute [local simp] I.vc sub merge place

def Dom.drop (d : Dom) (k : Nat) : Dom := if k < 32 then { d with a := clr d.a k } else { d with b := clr d.b (k - 32) }
def goesB (kind v x : Int) : Bool := if kind = 1 then decide (x < v) else if kind = 2 then decide (v < x) else decide (kind = 3) && decide (x = v)
end Go.Abs.G


namespace Go.Abs.G
open Go.Proofs
set_option linter.unusedVariables false
set_option linter.unusedSimpArgs false
attribute [local simp] I.vc sub merge place

def U (s : List Dom) (T : List (List Ce)) : Heap := [.mem false [1, 2] [[.own 1 4 0 s.length s.length, .own 2 1 0 T.length T.length]], .mem false [] (s.map Dom.row), .tree [] T]
structure StOk (s : List Dom) (T : List (List Ce)) : Prop where
  n : s.length ≤ 64
  k : T.length ≤ 1000000
  d : ∀ d ∈ s, d.ok
  t : ∀ f, Ce.renR f T = T
def isB (s : List Dom) (x : Int) : Bool := decide (0 ≤ x) && decide (x < s.length)

def Dom.size (d : Dom) : Nat := pop d.a + pop d.b
section
variable {s s' : List Dom} {T T' : List (List Ce)} {E : Heap}
@[simp] theorem U_len : (U s T).length = 3 := rfl
@[simp] theorem U_0 : (U s T)[0]? = some (.mem false [1, 2] [[.own 1 4 0 s.length s.length, .own 2 1 0 T.length T.length]]) := rfl
@[simp] theorem U_1 : (U s T)[1]? = some (.mem false [] (s.map Dom.row)) := rfl
@[simp] theorem U_2 : (U s T)[2]? = some (.tree [] T) := rfl
@[simp] theorem UE_0 : (U s T ++ E)[0]? = some (.mem false [1, 2] [[.own 1 4 0 s.length s.length, .own 2 1 0 T.length T.length]]) := rfl
@[simp] theorem UE_1 : (U s T ++ E)[1]? = some (.mem false [] (s.map Dom.row)) := rfl
@[simp] theorem UE_2 : (U s T ++ E)[2]? = some (.tree [] T) := rfl
@[simp] theorem U_clos : clos (U s T) 8 [0] = [0, 1, 2] := by simp [clos, addAll, O.refs, U]
@[simp] theorem UE_clos : clos (U s T ++ E) 8 [0] = [0, 1, 2] := by simp [clos, addAll, O.refs, U]
@[simp] theorem row_ren (f : Nat → Nat) (d : Dom) : V.renL f d.row = d.row := rfl
end
end Go.Abs.G


namespace Go.Abs.G
open Go.Proofs
set_option linter.unusedVariables false
set_option linter.unusedSimpArgs false
section
variable {s s' : List Dom} {T T' : List (List Ce)} {E : Heap}
@[simp] theorem U_clos1 : clos (U s T) 8 [1] = [1] := by simp [clos, addAll, O.refs, U]
end

theorem StOk.row {s : List Dom} {T : List (List Ce)} (hs : StOk s T) {x : Int} (h : isB s x = true) : ∃ i d, x = ((i : Nat) : Int) ∧ i < s.length ∧ s[i]? = some d ∧ d.ok ∧ (s.map Dom.row)[i]? = some d.row := by
  simp only [isB, Bool.and_eq_true, decide_eq_true_eq] at h
  have hlt : x.toNat < s.length := by omega
  exact ⟨x.toNat, s[x.toNat], by omega, hlt, by simp [hlt], hs.d _ (List.getElem_mem hlt), by simp [hlt]⟩

attribute [local simp] I.vc

end Go.Abs.G


namespace Go.Abs.G
open Go.Proofs
set_option linter.unusedVariables false
set_option linter.unusedSimpArgs false
attribute [local simp] I.vc
section
variable (d : Dom)
@[simp] theorem row_len : d.row.length = 4 := rfl
@[simp] theorem row_head : d.row.head? = some (V.i d.from') := rfl
@[simp] theorem row_0 : d.row[0]? = some (V.i d.from') := rfl
@[simp] theorem row_1 : d.row[1]? = some (V.i d.width) := rfl
@[simp] theorem row_2 : d.row[2]? = some (V.w d.a) := rfl
@[simp] theorem row_3 : d.row[3]? = some (V.w d.b) := rfl
@[simp] theorem row_0' (h) : d.row[0]'h = V.i d.from' := rfl
@[simp] theorem row_1' (h) : d.row[1]'h = V.i d.width := rfl
@[simp] theorem row_2' (h) : d.row[2]'h = V.w d.a := rfl
@[simp] theorem row_3' (h) : d.row[3]'h = V.w d.b := rfl
end
section
variable {s s' : List Dom} {T T' : List (List Ce)} {E : Heap}
@[simp] theorem UE_3 (o : O) : (U s T ++ (o :: E))[3]? = some o := rfl
@[simp] theorem UE_3' (o : O) (h) : (U s T ++ (o :: E))[3]'h = o := rfl
@[simp] theorem UE_0' (h) : (U s T ++ E)[0]'h = .mem false [1, 2] [[.own 1 4 0 s.length s.length, .own 2 1 0 T.length T.length]] := rfl
@[simp] theorem UE_1' (h) : (U s T ++ E)[1]'h = .mem false [] (s.map Dom.row) := rfl
@[simp] theorem UE_2' (h) : (U s T ++ E)[2]'h = .tree [] T := rfl
@[simp] theorem UE_4 (o o' : O) : (U s T ++ (o :: o' :: E))[4]? = some o' := rfl
@[simp] theorem UE_4' (o o' : O) (h) : (U s T ++ (o :: o' :: E))[4]'h = o' := rfl
@[simp] theorem UE_set3 (o o' : O) : (U s T ++ (o :: E)).set 3 o' = U s T ++ (o' :: E) := rfl
@[simp] theorem UE_set4 (o o1 o' : O) : (U s T ++ (o :: o1 :: E)).set 4 o' = U s T ++ (o :: o' :: E) := rfl
end

end Go.Abs.G


namespace Go.Abs.G
open Go.Proofs
set_option linter.unusedVariables false
set_option linter.unusedSimpArgs false
attribute [local simp] I.vc
section
variable {s s' : List Dom} {T T' : List (List Ce)} {E : Heap}
@[simp] theorem row_take (d : Dom) : List.take 4 d.row = d.row := rfl
@[simp] theorem row_idsL (d : Dom) : V.idsL d.row = [] := rfl
@[simp] theorem U_lim5 : (U s T).map (limO 5) = U s T := rfl
@[simp] theorem U_take5 (a b : O) : List.take 5 (U s T ++ [a, b]) = U s T ++ [a, b] := rfl
end

def cutTo (k v : Int) (d : Dom) : Nat → Dom
  | 0 => d
  | n + 1 => if goesB k v (d.from' + n) then (cutTo k v d n).drop n else cutTo k v d n
theorem drop_from (d : Dom) (k : Nat) : (d.drop k).from' = d.from' := by unfold Dom.drop; split <;> rfl
theorem drop_width (d : Dom) (k : Nat) : (d.drop k).width = d.width := by unfold Dom.drop; split <;> rfl
theorem drop_ok {d : Dom} (k : Nat) (h : d.ok) : (d.drop k).ok := by
  unfold Dom.drop; split
  · exact ⟨h.f, h.w, clr_lt _ _, h.b⟩
  · exact ⟨h.f, h.w, h.a, clr_lt _ _⟩
theorem cutTo_from (k v : Int) (d : Dom) : ∀ n, (cutTo k v d n).from' = d.from'
  | 0 => rfl
  | n + 1 => by unfold cutTo; split <;> simp [drop_from, cutTo_from k v d n]
theorem cutTo_width (k v : Int) (d : Dom) : ∀ n, (cutTo k v d n).width = d.width
  | 0 => rfl
  | n + 1 => by unfold cutTo; split <;> simp [drop_width, cutTo_width k v d n]
theorem cutTo_ok (k v : Int) {d : Dom} (h : d.ok) : ∀ n, (cutTo k v d n).ok
  | 0 => h
  | n + 1 => by unfold cutTo; split; exact drop_ok _ (cutTo_ok k v h n); exact cutTo_ok k v h n

def Dom.none (d : Dom) : Bool := decide (d.a = 0) && decide (d.b = 0)
def Dom.same (d e : Dom) : Bool := decide (d.a = e.a) && decide (d.b = e.b)
def cutS (s : List Dom) (k x v : Int) : List Dom × Bool × Bool :=
  if isB s x then match s[x.toNat]? with
    | some d => if (cutTo k v d d.width).none then (s, false, false) else (s.set x.toNat (cutTo k v d d.width), !(cutTo k v d d.width).same d, true)
    | none => (s, false, true)
  else (s, false, true)

end Go.Abs.G


namespace Go.Abs.G
open Go.Proofs
set_option linter.unusedVariables false
set_option linter.unusedSimpArgs false
attribute [local simp] I.vc

/-- A nil slice told as a slice without elements. -/
theorem DC.nilv {P : Program} {f : FuncId} {xs : List V} {H : Heap} {Q Q' : V → Heap → Prop} (es : Nat) (h : DC P f xs H Q) (hq : ∀ x H', Q x H' → Q' x H' ∨ (x = .a (.slice none 0 0) ∧ Q' (.view es []) H')) : DC P f xs H Q' := fun w β F vs hk hr =>
  (h w β F vs hk hr).mono fun e w' ⟨r, x, H', β2, h1, h2, h3, h4⟩ => by
    rcases hq x H' h4 with hQ | ⟨rfl, hQ⟩
    · exact ⟨r, x, H', β2, h1, h2, h3, hQ⟩
    · cases h3 with
      | a => exact ⟨_, .view es [], H', β2, h1, h2, .nilv, hQ⟩

def Dom.vals (d : Dom) (n : Nat) : List Int := ((List.range n).filter d.has).map fun i => d.from' + (i : Nat)
def valsB (s : List Dom) (x : Int) : List Int := if isB s x then ((s[x.toNat]?).map fun d => d.vals d.width).getD [] else []
section
variable {s s' : List Dom} {T T' : List (List Ce)} {E : Heap}
@[simp] theorem U_take6 (a b c : O) : List.take 6 (U s T ++ (a :: b :: c :: E)) = U s T ++ [a, b, c] := rfl
@[simp] theorem U_take6' (a : O) : List.take 6 (U s T ++ [a]) = U s T ++ [a] := rfl
@[simp] theorem U_lim6 : (U s T).map (limO 6) = U s T := rfl
@[simp] theorem UE_5 (a b c : O) : (U s T ++ (a :: b :: c :: E))[5]? = some c := rfl
@[simp] theorem UE_5' (a b c : O) (h) : (U s T ++ (a :: b :: c :: E))[5]'h = c := rfl
@[simp] theorem UE_set5 (a b c o' : O) : (U s T ++ (a :: b :: c :: E)).set 5 o' = U s T ++ (a :: b :: o' :: E) := rfl
end

end Go.Abs.G


namespace Go.Abs.G
open Go.Proofs
set_option linter.unusedVariables false
set_option linter.unusedSimpArgs false
attribute [local simp] I.vc

section
variable {s s' : List Dom} {T T' : List (List Ce)} {E : Heap}
@[simp] theorem U_take5b (a b : O) : List.take 5 (U s T ++ (a :: b :: E)) = U s T ++ [a, b] := rfl
@[simp] theorem U_take5c : List.take 5 (U s T) = U s T := rfl
end

end Go.Abs.G


namespace Go.Abs.G
open Go.Proofs
set_option linter.unusedVariables false
set_option linter.unusedSimpArgs false
attribute [local simp] I.vc

def Z (s : List Dom) (rf : List Nat) (R : List (List V)) : Heap := [.mem false [1, 2] [[.own 1 4 0 s.length s.length, .own 2 1 0 R.length R.length]], .mem false [] (s.map Dom.row), .mem false rf R]
section
variable {s : List Dom} {rf : List Nat} {R : List (List V)} {Es E : Heap} {n : Nat}
@[simp] theorem Z_s2 (o : O) : ((Z s rf R ++ E).set 2 o)[2]? = some o := rfl
@[simp] theorem Z_0 : (Z s rf R ++ E)[0]? = some (.mem false [1, 2] [[.own 1 4 0 s.length s.length, .own 2 1 0 R.length R.length]]) := rfl
@[simp] theorem Z_1 : (Z s rf R ++ E)[1]? = some (.mem false [] (s.map Dom.row)) := rfl
@[simp] theorem Z_2 : (Z s rf R ++ E)[2]? = some (.mem false rf R) := rfl
@[simp] theorem Z_0' (h) : (Z s rf R ++ E)[0]'h = .mem false [1, 2] [[.own 1 4 0 s.length s.length, .own 2 1 0 R.length R.length]] := rfl
@[simp] theorem Z_1' (h) : (Z s rf R ++ E)[1]'h = .mem false [] (s.map Dom.row) := rfl
@[simp] theorem Z_2' (h) : (Z s rf R ++ E)[2]'h = .mem false rf R := rfl
@[simp] theorem Z_len : (Z s rf R).length = 3 := rfl
end

end Go.Abs.G


namespace Go.Abs
end Go.Abs
namespace Go.Abs.G
open Go.Proofs
set_option linter.unusedVariables false
set_option linter.unusedSimpArgs false
attribute [local simp] I.vc

def domCe (d : Dom) : List Ce := d.row.map .v
def mT (ms : List (List Dom)) : List (List Ce) := ms.map fun L => [.n 4 (L.map domCe)]
end Go.Abs.G


namespace Go.Abs.G
open Go.Proofs
set_option linter.unusedVariables false
set_option linter.unusedSimpArgs false
attribute [local simp] I.vc

end Go.Abs.G


namespace Go.Abs.G
open Go.Proofs
set_option linter.unusedVariables false
set_option linter.unusedSimpArgs false
attribute [local simp] I.vc

end Go.Abs.G


namespace Go.Abs.G
open Go.Proofs
set_option linter.unusedVariables false
set_option linter.unusedSimpArgs false
attribute [local simp] I.vc

/-- A store as one thing. -/
def St1 (s : List Dom) (T : List (List Ce)) : O := .tree [] [[.n 4 (s.map domCe), .n 1 T]]

end Go.Abs.G


namespace Go.Abs.G
open Go.Proofs
set_option linter.unusedVariables false
set_option linter.unusedSimpArgs false
attribute [local simp] I.vc

end Go.Abs.G


/- The reference's store: two owned lists whose rows are only read. -/
namespace Go.Abs.G
open Go.Proofs
set_option linter.unusedVariables false
set_option linter.unusedSimpArgs false
attribute [local simp] I.vc

def flR (D : List (List V)) : Prop := (∀ f, D.map (V.renL f) = D) ∧ Ce.idsR (flatC D) = []

def RS (D M : List (List V)) : Heap := [.mem false [1, 2] [[.own 1 1 0 D.length D.length, .own 2 1 0 M.length M.length]], .mem false [] D, .mem false [] M]
def R1 (D M : List (List V)) : O := .tree [] [[.n 1 (flatC D), .n 1 (flatC M)]]

section
variable {D M D' M' : List (List V)} {E : Heap}
@[simp] theorem RS_len : (RS D M).length = 3 := rfl
@[simp] theorem RS_0 : (RS D M)[0]? = some (.mem false [1, 2] [[.own 1 1 0 D.length D.length, .own 2 1 0 M.length M.length]]) := rfl
@[simp] theorem RS_1 : (RS D M)[1]? = some (.mem false [] D) := rfl
@[simp] theorem RS_2 : (RS D M)[2]? = some (.mem false [] M) := rfl
@[simp] theorem RSE_0 : (RS D M ++ E)[0]? = some (.mem false [1, 2] [[.own 1 1 0 D.length D.length, .own 2 1 0 M.length M.length]]) := rfl
@[simp] theorem RSE_1 : (RS D M ++ E)[1]? = some (.mem false [] D) := rfl
@[simp] theorem RSE_2 : (RS D M ++ E)[2]? = some (.mem false [] M) := rfl
@[simp] theorem RSE_0' (h) : (RS D M ++ E)[0]'h = .mem false [1, 2] [[.own 1 1 0 D.length D.length, .own 2 1 0 M.length M.length]] := rfl
@[simp] theorem RSE_1' (h) : (RS D M ++ E)[1]'h = .mem false [] D := rfl
@[simp] theorem RSE_2' (h) : (RS D M ++ E)[2]'h = .mem false [] M := rfl
@[simp] theorem RS_0' (h) : (RS D M)[0]'h = .mem false [1, 2] [[.own 1 1 0 D.length D.length, .own 2 1 0 M.length M.length]] := rfl
@[simp] theorem RS_1' (h) : (RS D M)[1]'h = .mem false [] D := rfl
@[simp] theorem RS_2' (h) : (RS D M)[2]'h = .mem false [] M := rfl
@[simp] theorem RSE_3 (a : O) : (RS D M ++ (a :: E))[3]? = some a := rfl
@[simp] theorem RSE_3' (a : O) (h) : (RS D M ++ (a :: E))[3]'h = a := rfl
@[simp] theorem RSE_4 (a b : O) : (RS D M ++ (a :: b :: E))[4]? = some b := rfl
@[simp] theorem RSE_4' (a b : O) (h) : (RS D M ++ (a :: b :: E))[4]'h = b := rfl
@[simp] theorem RSE_5 (a b c : O) : (RS D M ++ (a :: b :: c :: E))[5]? = some c := rfl
@[simp] theorem RSE_5' (a b c : O) (h) : (RS D M ++ (a :: b :: c :: E))[5]'h = c := rfl
@[simp] theorem RSE_set3 (a o : O) : (RS D M ++ (a :: E)).set 3 o = RS D M ++ (o :: E) := rfl
@[simp] theorem RSE_set4 (a b o : O) : (RS D M ++ (a :: b :: E)).set 4 o = RS D M ++ (a :: o :: E) := rfl
@[simp] theorem RSE_set5 (a b c o : O) : (RS D M ++ (a :: b :: c :: E)).set 5 o = RS D M ++ (a :: b :: o :: E) := rfl
@[simp] theorem RS_lim (n : Nat) (h : 3 ≤ n) : (RS D M).map (limO n) = RS D M := by
  have h1 : 1 < n := by omega
  have h2 : 2 < n := by omega
  simp [RS, limO, O.refs, h1, h2]
@[simp] theorem RS_take3 : List.take 3 (RS D M) = RS D M := rfl
@[simp] theorem RS_clos : clos (RS D M) 8 [0] = [0, 1, 2] := by simp [clos, addAll, O.refs, RS]
@[simp] theorem RSE_clos : clos (RS D M ++ E) 8 [0] = [0, 1, 2] := by simp [clos, addAll, O.refs, RS]
end

/-- A list of lists, and marks of it. -/
def dR (d : List (List Int)) : List (List V) := d.map fun l => [vInts l]
def mR (ms : List (List (List Int))) : List (List V) := ms.map fun d => [vIntss d]
theorem flatC_ids : ∀ (D : List (List V)), (∀ r ∈ D, V.idsL r = []) → Ce.idsR (flatC D) = []
  | [], _ => rfl
  | r :: D, h => by
    have hr : ∀ (r : List V), Ce.idsL (r.map Ce.v) = V.idsL r := fun r => by
      induction r with
      | nil => rfl
      | cons x r ih => simp [Ce.idsL, Ce.ids, V.idsL, ih]
    have := flatC_ids D (fun r' h' => h r' (by simp [h']))
    simp only [flatC] at this
    simp [flatC, Ce.idsR, hr, h r (by simp), this]
theorem fl_dR (d : List (List Int)) : flR (dR d) := ⟨fun f => by simp [dR, V.renL, V.ren, vInts, Function.comp_def], flatC_ids _ fun r hr => by
  simp only [dR, List.mem_map] at hr
  obtain ⟨l, _, rfl⟩ := hr
  rfl⟩
theorem fl_mR (ms : List (List (List Int))) : flR (mR ms) := ⟨fun f => by simp [mR, V.renL, V.ren, vIntss, Function.comp_def], flatC_ids _ fun r hr => by
  simp only [mR, List.mem_map] at hr
  obtain ⟨l, _, rfl⟩ := hr
  rfl⟩
@[simp] theorem dR_len (d : List (List Int)) : (dR d).length = d.length := by simp [dR]
@[simp] theorem mR_len (ms : List (List (List Int))) : (mR ms).length = ms.length := by simp [mR]
end Go.Abs.G



namespace Go.Abs.G
open Go.Proofs
set_option linter.unusedVariables false
-- hallmark/hallmarkref11.own
def hallmarkref11_ownF.ann : List (Nat × RA) := [(0, { gs := [], keep := some [0] }), (1, { gs := [], keep := some [0, 3] }), (2, { gs := [], keep := some [0, 3, 4] }), (3, { gs := [], keep := some [0, 3, 4, 8] }), (4, { gs := [], keep := some [0, 3, 4] }), (5, { gs := [(6, [.frz 16, .nilv 16 1])], keep := some [0, 3, 4], aps := [(6, [1000004])] }), (6, { gs := [(0, [.frz 3, .nilv 3 1])], keep := some [2] })]
def hallmarkref11_ownF.b0 : C := .seq (.seq (.reg 0 [.o 0 (.lt (some 5) (.mov (.tmp 4))),
    .o 1 (.lt (some 6) (.mov (.tmp 0))),
    .o 2 (.lt (some 7) (.lenSl (.tmp 6))),
    .o 3 (.lt (some 8) (.bin .lss (.tmp 5) (.tmp 7))),
    .g (.keep [0, 3, 4, 8])]) (.cond (.tmp 8) (.skip) (.exit 0))) (.seq (.block 1 (.reg 3 [.o 0 (.lt (some 11) (.mov (.tmp 3))),
    .o 1 (.lt (some 12) (.mov (.tmp 0))),
    .o 2 (.lt (some 13) (.mov (.tmp 4))),
    .o 3 (.lt (some 14) (.ixS 1 (.tmp 12) (.tmp 13))),
    .o 4 (.lt (some 15) (.ld false 1 (.tmp 14))),
    .o 5 (.app [] (some 16) 0 1 8 (.const (.slice none 0 0)) (.tmp 15)),
    .g (.frz 16),
    .g (.nilv 16 1),
    .o 6 (.bsv (some 17) 1 1 [.a (.slice none 0 0)] [(0, (.tmp 16))]),
    .o 7 (.app [] (some 18) 2 1 24 (.tmp 11) (.tmp 17)),
    .o 8 (.lt (some 3) (.mov (.tmp 18))),
    .g (.keep [0, 3, 4])])) (.reg 0 [.o 0 (.lt (some 9) (.mov (.tmp 4))),
    .o 1 (.lt (some 10) (.bin .add (.tmp 9) (.const (.int .i64 1)))),
    .o 2 (.lt (some 4) (.mov (.tmp 10))),
    .g (.keep [0, 3, 4])]))
def hallmarkref11_ownF.rs : List Rs := [.sl 2]
end Go.Abs.G



/- What the reference's look at a problem tells: the same. -/
namespace Go.Abs
set_option linter.unusedVariables false

def listsB (k : Int) : Bool := decide (k = 3) || decide (k = 5) || decide (k = 6) || decide (k = 8) || decide (k = 9)
def manyB (n : Nat) : Bool := decide (n < 1) || decide (64 < n)
def foreignB (c : Con) : Bool :=
  if (decide (c.kind ≠ 9) && decide (c.v ≠ 0)) || (decide (c.kind ≠ 8) && decide (0 < c.rows.length)) then true
  else (decide (c.kind ≠ 1) && decide (c.kind ≠ 9) && decide (c.op ≠ 0)) || (!(decide (c.kind = 1) || decide (c.kind = 7)) && decide (0 < c.terms.length)) ||
    (!(decide (c.kind = 1) || decide (c.kind = 7)) && decide (c.kind ≠ 2) && decide (c.kind ≠ 9) && decide (c.k ≠ 0)) ||
    (decide (c.kind ≠ 2) && decide (c.kind ≠ 4) && decide (c.kind ≠ 7) && decide (c.x ≠ 0)) ||
    ((decide (c.kind = 1) || decide (c.kind = 7) || (listsB c.kind && decide (c.kind ≠ 5) && decide (c.kind ≠ 6))) && decide (c.y ≠ 0)) ||
    (!listsB c.kind && decide (0 < c.xs.length)) || (decide (c.kind ≠ 4) && decide (0 < c.table.length))
def rowsR (c : Con) : Bool := !(decide (8 < c.xs.length) || manyB c.rows.length) && c.rows.all fun r => decide (r.length = c.xs.length)
def termsR (l : List Term) (n : Int) : Int := if badVarB n l then 44 else if badCoefB l then 45 else 0
def placeR (x n : Int) : Bool := decide (0 ≤ x) && decide (x < n)
def placesR (c : Con) (n : Int) : Bool := placeR c.x n && placeR c.y n && c.xs.all fun x => placeR x n
def conR (c : Con) (n : Int) : Int :=
  if decide (c.kind < 1) || decide (9 < c.kind) || ((decide (c.kind = 1) || decide (c.kind = 9)) && (decide (c.op < 1) || decide (3 < c.op))) then 43
  else if foreignB c then 48
  else if ((decide (c.kind = 1) || decide (c.kind = 7)) && manyB c.terms.length) || (listsB c.kind && manyB c.xs.length) || (decide (c.kind = 4) && manyB c.table.length) || (decide (c.kind = 8) && !rowsR c) then 47
  else if !placesR c n || decide (termsR c.terms n = 44) then 44
  else if termsR c.terms n ≠ 0 then termsR c.terms n
  else if !withinB c.k 1000000000 || !withinB c.v 1000000000 then 46
  else if c.rows.any greatB then 46
  else if greatB c.table then 46
  else 0

theorem noB_place (n x : Int) : noB n x = !placeR x n := by
  unfold noB placeR
  rw [Bool.eq_iff_iff]; simp
  try omega
theorem any_place (n : Int) (l : List Int) : (l.any (noB n)) = !(l.all fun x => placeR x n) := by
  induction l with
  | nil => rfl
  | cons a l ih => simp [ih, noB_place]
theorem wide_rows (c : Con) : (decide (8 < c.xs.length) || !countsB true c.rows.length || c.rows.any fun r => decide (r.length ≠ c.xs.length)) = !rowsR c := by
  unfold rowsR manyB countsB
  have : (c.rows.any fun r => decide (r.length ≠ c.xs.length)) = !(c.rows.all fun r => decide (r.length = c.xs.length)) := by
    rw [Bool.eq_iff_iff]; simp
  rw [this]
  generalize (c.rows.all fun r => decide (r.length = c.xs.length)) = b
  rw [Bool.eq_iff_iff]
  cases b <;> simp <;> omega

theorem conR_eq (c : Con) (n : Int) (hn : 0 < n) : conR c n = conB c n := by
  unfold conB conR needs
  by_cases hk : c.kind < 1 ∨ 9 < c.kind
  · have : (decide (c.kind < 1) || decide (9 < c.kind) || ((decide (c.kind = 1) || decide (c.kind = 9)) && (decide (c.op < 1) || decide (3 < c.op)))) = true := by
      rcases hk with h | h <;> simp [h]
    rw [if_pos this]
    have h1 : c.kind ≠ 1 ∧ c.kind ≠ 2 ∧ c.kind ≠ 3 ∧ c.kind ≠ 4 ∧ c.kind ≠ 5 ∧ c.kind ≠ 6 ∧ c.kind ≠ 7 ∧ c.kind ≠ 8 ∧ c.kind ≠ 9 := by omega
    simp [h1]
  · have hks : c.kind = 1 ∨ c.kind = 2 ∨ c.kind = 3 ∨ c.kind = 4 ∨ c.kind = 5 ∨ c.kind = 6 ∨ c.kind = 7 ∨ c.kind = 8 ∨ c.kind = 9 := by omega
    have hT : (termsR c.terms n = 44) ↔ badVarB n c.terms = true := by
      unfold termsR; cases badVarB n c.terms <;> cases badCoefB c.terms <;> simp
    have hX := noB_place n c.x
    have hY := noB_place n c.y
    have hXs := any_place n c.xs
    have hW := wide_rows c
    have p0 : placeR 0 n = true := by simp [placeR]; omega
    unfold conN placesR
    rw [hX, hY, hXs]
    simp only [wideB, hW]
    simp only [hT]
    unfold termsR fieldB foreignB listsB manyB countsB
    generalize badVarB n c.terms = A
    generalize badCoefB c.terms = B
    generalize (c.xs.all fun x => placeR x n) = D
    generalize greatB c.table = G
    generalize c.rows.any greatB = R
    generalize rowsR c = W
    generalize withinB c.k 1000000000 = K1
    generalize withinB c.v 1000000000 = K2
    rcases hks with h | h | h | h | h | h | h | h | h
    · simp [h]
      grind
    all_goals (simp [h]; try grind)
end Go.Abs

namespace Go.Abs.G
open Go.Proofs
attribute [local simp] I.vc sub merge place
set_option linter.unusedVariables false

theorem within_spec (n most : Int) (h0 : 0 ≤ most) (h1 : most ≤ 9223372036854775807) : Pf Tryz.prog model_within.id [V.i n, V.i most] (.bool (withinB n most)) := by
  refine DC.of model_within.ok (by simp) ?_
  have hw : IntKind.i64.wrap (-most) = -most := wrap64 (by omega) (by omega)
  simp [model_within.ir, model_within.rs, hw, withinB]
  by_cases h : -most ≤ n <;> simp [h] <;> omega

theorem great1_spec (n : Int) : Pf Tryz.prog model_great_1.id [V.i n] (.bool (!withinB n 1000000000)) := by
  refine DC.of model_great_1.ok (by simp) ?_
  simp [model_great_1.ir, model_great_1.rs]
  exact (within_spec n 1000000000 (by decide) (by decide)).use (by simp)

/-- The place of the first of which something is told. -/
def firstAt {α : Type} (p : α → Bool) : Nat → List α → Int
  | _, [] => -1
  | i, x :: l => if p x then i else firstAt p (i + 1) l

theorem firstAt_any {α : Type} (p : α → Bool) : ∀ (l : List α) (i : Nat), decide (0 ≤ firstAt p i l) = l.any p := by
  intro l
  induction l with
  | nil => intro i; simp [firstAt]
  | cons x l ih =>
    intro i
    simp only [firstAt, List.any_cons]
    by_cases h : p x = true
    · simp [h]
    · simp [h, ih]

theorem firstAt_drop {α : Type} (p : α → Bool) {l : List α} {i : Nat} (h : i < l.length) : firstAt p i (l.drop i) = if p l[i] then (i : Int) else firstAt p (i + 1) (l.drop (i + 1)) := by
  rw [List.drop_eq_getElem_cons h]; rfl

theorem index_int_spec {f : FuncId} {cap : List V} {p : Int → Bool} {l : List Int} (hok : okFunc Tryz.prog f = true) (hids : V.idsL cap = []) (hg : ∀ t ∈ l, DP Tryz.prog f (V.i t :: cap) fun r => r = .bool (p t)) (hl : l.length ≤ maxLen) :
    Pf Tryz.prog slices_IndexFunc_Lint_int.id [vInts l, .fn (.func f) [] cap] (V.i (firstAt p 0 l)) := by
  have hm : (maxLen : Int) ≤ 9223372036854775807 := by decide
  refine DC.of slices_IndexFunc_Lint_int.ok (by simp) ?_
  simp [slices_IndexFunc_Lint_int.ir, slices_IndexFunc_Lint_int.rs, vInts]
  refine WI.loop 0 (by simp) (fun s => ∃ i, i ≤ l.length ∧ gt s.sl 1 = .fn (.func f) [] cap ∧ gt s.sl 0 = vInts l ∧ gt s.sl 7 = V.i l.length ∧ gt s.sl 8 = V.i i ∧ s.hp = [] ∧ firstAt p 0 l = firstAt p i (l.drop i)) (fun s => (l.length - (gt s.sl 8).num).toNat) ?_ ?_
  · exact ⟨0, by simp [vInts]⟩
  · rintro ⟨sl, hp, bs⟩ ⟨i, hi, h1, h0, h7, h8, rfl, he⟩
    by_cases hil : i < l.length
    · simp [slices_IndexFunc_Lint_int.b0, h1, h0, h7, h8, vInts, hil, hok, hids]
      refine DP.mono (hg _ (List.getElem_mem hil)) fun r hr => ?_
      subst hr
      rw [firstAt_drop p hil] at he
      have hw : IntKind.i64.wrap ((i : Int) + 1) = ((i + 1 : Nat) : Int) := by rw [wrap64] <;> omega
      cases hp : p l[i]
      · simp [hw, he, hp]
        exact ⟨⟨i + 1, by omega, by omega, rfl⟩, by omega⟩
      · simp [he, hp]
    · obtain rfl : i = l.length := by omega
      simp [slices_IndexFunc_Lint_int.b0, h1, h0, h7, h8, he, firstAt]

theorem contains_int_spec {f : FuncId} {cap : List V} {p : Int → Bool} {l : List Int} (hok : okFunc Tryz.prog f = true) (hids : V.idsL cap = []) (hg : ∀ t ∈ l, DP Tryz.prog f (V.i t :: cap) fun r => r = .bool (p t)) (hl : l.length ≤ maxLen) :
    Pf Tryz.prog slices_ContainsFunc_Lint_int.id [vInts l, .fn (.func f) [] cap] (.bool (l.any p)) := by
  refine DC.of slices_ContainsFunc_Lint_int.ok (by simp) ?_
  simp [slices_ContainsFunc_Lint_int.ir, slices_ContainsFunc_Lint_int.rs, vInts, hids]
  refine (index_int_spec hok hids hg hl).use ?_
  simp [firstAt_any]

theorem great_spec (l : List Int) (hl : l.length ≤ maxLen) : Pf Tryz.prog model_great.id [vInts l] (.bool (greatB l)) := by
  refine DC.of model_great.ok (by simp) ?_
  simp [model_great.ir, model_great.rs, vInts]
  refine (contains_int_spec (by simp) (by simp) (fun t _ => great1_spec t) hl).use ?_
  simp [greatB]

theorem counts_spec (b : Bool) (n : Nat) : Pf Tryz.prog model_counts.id [.bool b, V.i n] (.bool (countsB b n)) := by
  refine DC.of model_counts.ok (by simp) ?_
  simp [model_counts.ir, model_counts.rs, countsB]
  cases b <;> by_cases h : 1 ≤ n <;> simp [h] <;> omega

end Go.Abs.G



namespace Go.Abs.G
open Go.Proofs
attribute [local simp] I.vc sub merge place
set_option linter.unusedVariables false
theorem index_ints_spec {f : FuncId} {cap : List V} {p : List Int → Bool} {l : List (List Int)} (hok : okFunc Tryz.prog f = true) (hids : V.idsL cap = []) (hg : ∀ t ∈ l, DP Tryz.prog f (vInts t :: cap) fun r => r = .bool (p t)) (hl : l.length ≤ maxLen) :
    Pf Tryz.prog slices_IndexFunc_LLint_Lint.id [vIntss l, .fn (.func f) [] cap] (V.i (firstAt p 0 l)) := by
  have hm : (maxLen : Int) ≤ 9223372036854775807 := by decide
  refine DC.of slices_IndexFunc_LLint_Lint.ok (by simp) ?_
  simp [slices_IndexFunc_LLint_Lint.ir, slices_IndexFunc_LLint_Lint.rs, vIntss]
  refine WI.loop 0 (by simp) (fun s => ∃ i, i ≤ l.length ∧ gt s.sl 1 = .fn (.func f) [] cap ∧ gt s.sl 0 = vIntss l ∧ gt s.sl 7 = V.i l.length ∧ gt s.sl 8 = V.i i ∧ s.hp = [] ∧ firstAt p 0 l = firstAt p i (l.drop i)) (fun s => (l.length - (gt s.sl 8).num).toNat) ?_ ?_
  · exact ⟨0, by simp [vIntss]⟩
  · rintro ⟨sl, hp, bs⟩ ⟨i, hi, h1, h0, h7, h8, rfl, he⟩
    by_cases hil : i < l.length
    · simp [slices_IndexFunc_LLint_Lint.b0, h1, h0, h7, h8, vIntss, vInts, hil, hok, hids]
      refine DP.mono (hg _ (List.getElem_mem hil)) fun r hr => ?_
      subst hr
      rw [firstAt_drop p hil] at he
      have hw : IntKind.i64.wrap ((i : Int) + 1) = ((i + 1 : Nat) : Int) := by rw [wrap64] <;> omega
      cases hp : p l[i]
      · simp [hw, he, hp]
        exact ⟨⟨i + 1, by omega, by omega, rfl⟩, by omega⟩
      · simp [he, hp]
    · obtain rfl : i = l.length := by omega
      simp [slices_IndexFunc_LLint_Lint.b0, h1, h0, h7, h8, he, firstAt]

theorem contains_ints_spec {f : FuncId} {cap : List V} {p : List Int → Bool} {l : List (List Int)} (hok : okFunc Tryz.prog f = true) (hids : V.idsL cap = []) (hg : ∀ t ∈ l, DP Tryz.prog f (vInts t :: cap) fun r => r = .bool (p t)) (hl : l.length ≤ maxLen) :
    Pf Tryz.prog slices_ContainsFunc_LLint_Lint.id [vIntss l, .fn (.func f) [] cap] (.bool (l.any p)) := by
  refine DC.of slices_ContainsFunc_LLint_Lint.ok (by simp) ?_
  simp [slices_ContainsFunc_LLint_Lint.ir, slices_ContainsFunc_LLint_Lint.rs, vIntss, hids]
  refine (index_ints_spec hok hids hg hl).use ?_
  simp [firstAt_any]

end Go.Abs.G


namespace Go.Abs.G
open Go.Proofs
attribute [local simp] I.vc sub merge place
set_option linter.unusedVariables false
theorem any_take_succ {α : Type} (p : α → Bool) {l : List α} {i : Nat} (h : i < l.length) : (l.take (i + 1)).any p = ((l.take i).any p || p l[i]) := by
  rw [List.take_succ_eq_append_getElem h, List.any_append]; simp

theorem terms_spec (l : List Term) (vars : Int) (hl : l.length ≤ maxLen) :
    Pf Tryz.prog model_terms.id [vTerms l, V.i vars] (.tup [.bool (badVarB vars l), .bool (badCoefB l)]) := by
  have hm : (maxLen : Int) ≤ 9223372036854775807 := by decide
  refine DC.of model_terms.ok (by simp) ?_
  simp [model_terms.ir, model_terms.rs, vTerms]
  refine WI.loop 0 (by simp) (fun s => ∃ i, i ≤ l.length ∧ gt s.sl 1 = V.i vars ∧ gt s.sl 4 = .bool (badVarB vars (l.take i)) ∧ gt s.sl 5 = .bool (badCoefB (l.take i)) ∧ gt s.sl 8 = vTerms l ∧ gt s.sl 9 = V.i l.length ∧ gt s.sl 10 = V.i i ∧ s.hp = []) (fun s => (l.length - (gt s.sl 10).num).toNat) ?_ ?_
  · exact ⟨0, by simp [vTerms, badVarB, badCoefB]⟩
  · rintro ⟨sl, hp, bs⟩ ⟨i, hi, h1, h4, h5, h8, h9, h10, rfl⟩
    by_cases hil : i < l.length
    · have e1 : badVarB vars (l.take (i + 1)) = (badVarB vars (l.take i) || (decide (l[i].x < 0) || decide (vars ≤ l[i].x))) := any_take_succ _ hil
      have e2 : badCoefB (l.take (i + 1)) = (badCoefB (l.take i) || (decide (l[i].c = 0) || !withinB l[i].c 1000000)) := any_take_succ _ hil
      have hw : IntKind.i64.wrap ((i : Int) + 1) = ((i + 1 : Nat) : Int) := by rw [wrap64] <;> omega
      have g10 := h10
      unfold model_terms.b0
      refine vc_cut (fun s => gt s.sl 1 = V.i vars ∧ gt s.sl 4 = .bool (badVarB vars (l.take i)) ∧ gt s.sl 5 = .bool (badCoefB (l.take i)) ∧ gt s.sl 8 = vTerms l ∧ gt s.sl 9 = V.i l.length ∧ gt s.sl 10 = V.i i ∧ gt s.sl 11 = V.bool true ∧ s.hp = []) (by simp [h1, h4, h5, h8, h9, h10, hil]) ?_
      rintro ⟨sl, hp, bs⟩ ⟨h1, h4, h5, h8, h9, h10, h11, rfl⟩
      refine vc_cut (fun s => gt s.sl 1 = V.i vars ∧ gt s.sl 4 = .bool (badVarB vars (l.take i)) ∧ gt s.sl 5 = .bool (badCoefB (l.take i)) ∧ gt s.sl 8 = vTerms l ∧ gt s.sl 9 = V.i l.length ∧ gt s.sl 10 = V.i i ∧ s.hp = []) (by simp [h1, h4, h5, h8, h9, h10, h11, hil]) ?_
      rintro ⟨sl, hp, bs⟩ ⟨h1, h4, h5, h8, h9, h10, rfl⟩
      refine vc_cut (fun s => gt s.sl 1 = V.i vars ∧ gt s.sl 4 = .bool (badVarB vars (l.take (i + 1))) ∧ gt s.sl 5 = .bool (badCoefB (l.take (i + 1))) ∧ gt s.sl 8 = vTerms l ∧ gt s.sl 9 = V.i l.length ∧ gt s.sl 10 = V.i i ∧ s.hp = [.mem false [] [l[i].cells]]) (vc_block_of ?_) ?_
      · refine vc_cut (fun s => gt s.sl 1 = V.i vars ∧ gt s.sl 4 = .bool (badVarB vars (l.take i)) ∧ gt s.sl 5 = .bool (badCoefB (l.take i)) ∧ gt s.sl 7 = .ptr 0 1 0 0 ∧ gt s.sl 8 = vTerms l ∧ gt s.sl 9 = V.i l.length ∧ gt s.sl 10 = V.i i ∧ s.hp = [.mem false [] [l[i].cells]]) (by simp [h1, h4, h5, h8, h9, h10, vTerms, Term.cells, hil]) ?_
        rintro ⟨sl, hp, bs⟩ ⟨h1, h4, h5, h7, h8, h9, h10, rfl⟩
        refine vc_cut (fun s => gt s.sl 1 = V.i vars ∧ gt s.sl 4 = .bool (badVarB vars (l.take (i + 1))) ∧ gt s.sl 5 = .bool (badCoefB (l.take i)) ∧ gt s.sl 7 = .ptr 0 1 0 0 ∧ gt s.sl 8 = vTerms l ∧ gt s.sl 9 = V.i l.length ∧ gt s.sl 10 = V.i i ∧ s.hp = [.mem false [] [l[i].cells]]) ?_ ?_
        · rw [e1]
          simp [h1, h4, h5, h7, h8, h9, h10, vTerms, Term.cells]
          cases badVarB vars (l.take i) <;> simp
          by_cases hx : l[i].x < 0 <;> simp [hx] <;> omega
        rintro ⟨sl, hp, bs⟩ ⟨h1, h4, h5, h7, h8, h9, h10, rfl⟩
        rw [e2]
        simp [h1, h4, h5, h7, h8, h9, h10, vTerms, Term.cells]
        cases badCoefB (l.take i) <;> simp
        by_cases hx : l[i].c = 0 <;> simp [hx]
        refine (within_spec l[i].c 1000000 (by decide) (by decide)).use ?_
        simp
      · rintro ⟨sl, hp, bs⟩ ⟨h1, h4, h5, h8, h9, h10, rfl⟩
        simp [h1, h4, h5, h8, h9, h10, hw, vTerms, g10]
        exact ⟨⟨i + 1, by omega, rfl, rfl, by omega⟩, by omega⟩
    · obtain rfl : i = l.length := by omega
      simp [model_terms.b0, h1, h4, h5, h8, h9, h10]

theorem wide1_spec (r : List Int) (c : Con) : Pf Tryz.prog model_wide_1.id [vInts r, .ref c.cells 0] (.bool (decide (r.length ≠ c.xs.length))) := by
  refine DC.of model_wide_1.ok (by simp) ?_
  simp [model_wide_1.ir, model_wide_1.rs, vInts, Con.cells, vTerms, vIntss]
  by_cases h : r.length = c.xs.length <;> simp [h]
  omega

end Go.Abs.G



namespace Go.Abs.G
open Go.Proofs
attribute [local simp] I.vc sub merge place
set_option linter.unusedVariables false

theorem wide_spec (c : Con) (n : Needs) (f : FuncId) (hr : c.rows.length ≤ maxLen) : Pf Tryz.prog model_wide.id [.agg c.cells, .agg (n.cells f)] (.bool (wideB c n)) := by
  refine DC.of model_wide.ok (by simp) ?_
  simp [model_wide.ir, model_wide.rs, wideB, Con.cells, vTerms, vInts, vIntss, Needs.cells]
  by_cases hx : 8 < c.xs.length
  · have hx' : (8 : Int) < c.xs.length := by omega
    cases n.rows <;> simp [hx, hx', Int.not_le.2 hx']
  · have hx' : ¬ (8 : Int) < c.xs.length := by omega
    have hx2 : (c.xs.length : Int) ≤ 8 := by omega
    cases n.rows <;> simp [hx, hx', hx2]
    refine (counts_spec true c.rows.length).use ?_
    simp
    cases hb : countsB true c.rows.length <;> simp
    refine DP.mono (contains_ints_spec (p := fun r => decide (r.length ≠ c.xs.length)) (cap := [.ref c.cells 0]) (by simp) (by simp) (fun t _ => wide1_spec t c) hr) fun r hr => ?_
    subst hr
    simp

theorem fieldB_eq (c : Con) (n : Needs) : fieldB c n = (decide (¬ ((if n.op then 0 else c.op) = 0 ∧ (if n.k then 0 else c.k) = 0 ∧ (if n.v then 0 else c.v) = 0 ∧ (if n.x then 0 else c.x) = 0 ∧ (if n.y then 0 else c.y) = 0)) || (!n.terms && decide (0 < c.terms.length)) || (!n.xs && decide (0 < c.xs.length)) || (!n.table && decide (0 < c.table.length)) || (!n.rows && decide (0 < c.rows.length))) := by
  have key : ((!n.op && decide (c.op ≠ 0)) || (!n.k && decide (c.k ≠ 0)) || (!n.v && decide (c.v ≠ 0)) || (!n.x && decide (c.x ≠ 0)) || (!n.y && decide (c.y ≠ 0))) = decide (¬ ((if n.op then 0 else c.op) = 0 ∧ (if n.k then 0 else c.k) = 0 ∧ (if n.v then 0 else c.v) = 0 ∧ (if n.x then 0 else c.x) = 0 ∧ (if n.y then 0 else c.y) = 0)) := by
    cases n.op <;> cases n.k <;> cases n.v <;> cases n.x <;> cases n.y <;> rw [Bool.eq_iff_iff] <;> simp <;> omega
  unfold fieldB
  rw [key]

theorem field_spec (c : Con) (n : Needs) (f : FuncId) : Pf Tryz.prog model_field.id [.agg c.cells, .agg (n.cells f)] (.bool (fieldB c n)) := by
  refine DC.of model_field.ok (by simp) ?_
  unfold model_field.ir
  have hc : (V.agg c.cells).sized [] 10 := by simp [Con.cells, vTerms, vInts, vIntss]
  refine vc_cut (fun s => gt s.sl 2 = .ptr 0 1 0 0 ∧ gt s.sl 3 = .ptr 1 1 0 0 ∧ s.hp = [.mem false [] [c.cells], .mem false [] [n.cells f]]) (by simp [Con.cells, vTerms, vInts, vIntss, Needs.cells]) ?_
  rintro ⟨sl, hp, bs⟩ ⟨h2, h3, rfl⟩
  refine vc_cut (fun s => gt s.sl 2 = .ptr 0 1 0 0 ∧ gt s.sl 3 = .ptr 1 1 0 0 ∧ gt s.sl 5 = .ptr 2 1 0 0 ∧ s.hp = [.mem false [] [c.cells], .mem false [] [n.cells f], .mem false [] [[V.i c.op, V.i c.k, V.i c.v, V.i c.x, V.i c.y]]]) (by simp [h2, h3, Con.cells, vTerms, vInts, vIntss, Needs.cells]) ?_
  rintro ⟨sl, hp, bs⟩ ⟨h2, h3, h5, rfl⟩
  have key : ∀ (o k v x y : Int), o = (if n.op then 0 else c.op) → True := fun _ _ _ _ _ _ => trivial
  refine vc_cut (fun s => gt s.sl 2 = .ptr 0 1 0 0 ∧ gt s.sl 3 = .ptr 1 1 0 0 ∧ gt s.sl 5 = .ptr 2 1 0 0 ∧ s.hp = [.mem false [] [c.cells], .mem false [] [n.cells f], .mem false [] [[V.i (if n.op then 0 else c.op), V.i c.k, V.i c.v, V.i c.x, V.i c.y]]]) (by cases hb : n.op <;> simp [h2, h3, h5, Con.cells, vTerms, vInts, vIntss, Needs.cells, hb]) ?_
  rintro ⟨sl, hp, bs⟩ ⟨h2, h3, h5, rfl⟩
  refine vc_cut (fun s => gt s.sl 2 = .ptr 0 1 0 0 ∧ gt s.sl 3 = .ptr 1 1 0 0 ∧ gt s.sl 5 = .ptr 2 1 0 0 ∧ s.hp = [.mem false [] [c.cells], .mem false [] [n.cells f], .mem false [] [[V.i (if n.op then 0 else c.op), V.i c.k, V.i (if n.v then 0 else c.v), V.i c.x, V.i c.y]]]) (by cases hb : n.v <;> simp [h2, h3, h5, Con.cells, vTerms, vInts, vIntss, Needs.cells, hb]) ?_
  rintro ⟨sl, hp, bs⟩ ⟨h2, h3, h5, rfl⟩
  refine vc_cut (fun s => gt s.sl 2 = .ptr 0 1 0 0 ∧ gt s.sl 3 = .ptr 1 1 0 0 ∧ gt s.sl 5 = .ptr 2 1 0 0 ∧ s.hp = [.mem false [] [c.cells], .mem false [] [n.cells f], .mem false [] [[V.i (if n.op then 0 else c.op), V.i (if n.k then 0 else c.k), V.i (if n.v then 0 else c.v), V.i c.x, V.i c.y]]]) (by cases hb : n.k <;> simp [h2, h3, h5, Con.cells, vTerms, vInts, vIntss, Needs.cells, hb]) ?_
  rintro ⟨sl, hp, bs⟩ ⟨h2, h3, h5, rfl⟩
  refine vc_cut (fun s => gt s.sl 2 = .ptr 0 1 0 0 ∧ gt s.sl 3 = .ptr 1 1 0 0 ∧ gt s.sl 5 = .ptr 2 1 0 0 ∧ s.hp = [.mem false [] [c.cells], .mem false [] [n.cells f], .mem false [] [[V.i (if n.op then 0 else c.op), V.i (if n.k then 0 else c.k), V.i (if n.v then 0 else c.v), V.i (if n.x then 0 else c.x), V.i c.y]]]) (by cases hb : n.x <;> simp [h2, h3, h5, Con.cells, vTerms, vInts, vIntss, Needs.cells, hb]) ?_
  rintro ⟨sl, hp, bs⟩ ⟨h2, h3, h5, rfl⟩
  refine vc_cut (fun s => gt s.sl 2 = .ptr 0 1 0 0 ∧ gt s.sl 3 = .ptr 1 1 0 0 ∧ gt s.sl 5 = .ptr 2 1 0 0 ∧ s.hp = [.mem false [] [c.cells], .mem false [] [n.cells f], .mem false [] [[V.i (if n.op then 0 else c.op), V.i (if n.k then 0 else c.k), V.i (if n.v then 0 else c.v), V.i (if n.x then 0 else c.x), V.i (if n.y then 0 else c.y)]]]) (by cases hb : n.y <;> simp [h2, h3, h5, Con.cells, vTerms, vInts, vIntss, Needs.cells, hb]) ?_
  rintro ⟨sl, hp, bs⟩ ⟨h2, h3, h5, rfl⟩
  have hf := fieldB_eq c n
  rw [hf]
  generalize (if n.op then 0 else c.op) = o
  generalize (if n.k then 0 else c.k) = k
  generalize (if n.v then 0 else c.v) = v
  generalize (if n.x then 0 else c.x) = x
  generalize (if n.y then 0 else c.y) = y
  generalize hb0 : decide (¬ (o = 0 ∧ k = 0 ∧ v = 0 ∧ x = 0 ∧ y = 0)) = b0
  refine vc_cut (fun s => gt s.sl 4 = .bool (b0 || (!n.terms && decide (0 < c.terms.length)) || (!n.xs && decide (0 < c.xs.length)) || (!n.table && decide (0 < c.table.length)) || (!n.rows && decide (0 < c.rows.length)))) (vc_reg_of ?_) ?_
  · have e : ∀ b0 b : Bool, (b0 || b) = if b0 then true else b := fun b0 b => by cases b0 <;> rfl
    refine vcIts_cut 4 (fun s => gt s.sl 2 = .ptr 0 1 0 0 ∧ gt s.sl 3 = .ptr 1 1 0 0 ∧ gt s.sl 35 = .bool b0 ∧ s.hp = [.mem false [] [c.cells], .mem false [] [n.cells f], .mem false [] [[V.i o, V.i k, V.i v, V.i x, V.i y]]]) ?_ ?_
    · simp [h2, h3, h5, ← hb0]
      rfl
    rintro ⟨sl, hp, bs⟩ ⟨h2, h3, h4, rfl⟩
    refine vcIts_cut 11 (fun s => gt s.sl 2 = .ptr 0 1 0 0 ∧ gt s.sl 3 = .ptr 1 1 0 0 ∧ gt s.sl 46 = .bool (b0 || (!n.terms && decide (0 < c.terms.length))) ∧ s.hp = [.mem false [] [c.cells], .mem false [] [n.cells f], .mem false [] [[V.i o, V.i k, V.i v, V.i x, V.i y]]]) ?_ ?_
    · cases b0 <;> cases hn : n.terms <;> simp [h2, h3, h4, hn, Con.cells, vTerms, vInts, vIntss, Needs.cells]
    generalize (b0 || (!n.terms && decide (0 < c.terms.length))) = b1
    rintro ⟨sl, hp, bs⟩ ⟨h2, h3, h4, rfl⟩
    refine vcIts_cut 11 (fun s => gt s.sl 2 = .ptr 0 1 0 0 ∧ gt s.sl 3 = .ptr 1 1 0 0 ∧ gt s.sl 57 = .bool (b1 || (!n.xs && decide (0 < c.xs.length))) ∧ s.hp = [.mem false [] [c.cells], .mem false [] [n.cells f], .mem false [] [[V.i o, V.i k, V.i v, V.i x, V.i y]]]) ?_ ?_
    · cases b1 <;> cases hn : n.xs <;> simp [h2, h3, h4, hn, Con.cells, vTerms, vInts, vIntss, Needs.cells]
    generalize (b1 || (!n.xs && decide (0 < c.xs.length))) = b2
    rintro ⟨sl, hp, bs⟩ ⟨h2, h3, h4, rfl⟩
    refine vcIts_cut 11 (fun s => gt s.sl 2 = .ptr 0 1 0 0 ∧ gt s.sl 3 = .ptr 1 1 0 0 ∧ gt s.sl 68 = .bool (b2 || (!n.table && decide (0 < c.table.length))) ∧ s.hp = [.mem false [] [c.cells], .mem false [] [n.cells f], .mem false [] [[V.i o, V.i k, V.i v, V.i x, V.i y]]]) ?_ ?_
    · cases b2 <;> cases hn : n.table <;> simp [h2, h3, h4, hn, Con.cells, vTerms, vInts, vIntss, Needs.cells]
    generalize (b2 || (!n.table && decide (0 < c.table.length))) = b3
    rintro ⟨sl, hp, bs⟩ ⟨h2, h3, h4, rfl⟩
    cases b3 <;> cases hn : n.rows <;> simp [h2, h3, h4, hn, Con.cells, vTerms, vInts, vIntss, Needs.cells]
  · rintro ⟨sl, hp, bs⟩ h4
    simp [h4, model_field.rs]
end Go.Abs.G


