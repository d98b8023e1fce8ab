import Derived.Test.YtbmcfbemmjojlaaA2
import Derived.Test.YtbmcfbemmjojlaaProg
import Derived.KernelRfl
import GoSem.ClaimChange
import GoSem.ClaimJoined
import Derived.Below
import Derived.Laws.Strings
set_option linter.all false
/- Short names of the commonest steps. -/
namespace Go.Abs.G
abbrev zm (j d : Nat) (s : Nat) : It := .o j (.lt (some d) (.mov (.tmp s)))
abbrev ym (j g : Nat) (w : Bool) (d : Nat) (s : Nat) : It := .gd j g w (some d) (.lt (some d) (.mov (.tmp s)))
abbrev zk (j d : Nat) (n : Int) : It := .o j (.lt (some d) (.mov (.const (.int .i64 n))))
abbrev zb (j d : Nat) (b : Bool) : It := .o j (.lt (some d) (.mov (.const (.bool b))))
abbrev yb (j g : Nat) (w : Bool) (d : Nat) (b : Bool) : It := .gd j g w (some d) (.lt (some d) (.mov (.const (.bool b))))
abbrev zl (j d : Nat) (n s : Nat) : It := .o j (.lt (some d) (.ld false n (.tmp s)))
abbrev yl (j g : Nat) (w : Bool) (d : Nat) (n s : Nat) : It := .gd j g w (some d) (.lt (some d) (.ld false n (.tmp s)))
abbrev zL (j d : Nat) (n s : Nat) : It := .o j (.lt (some d) (.ld true n (.tmp s)))
abbrev zf (j d : Nat) (s n : Nat) : It := .o j (.lt (some d) (.fad (.tmp s) n))
abbrev yf (j g : Nat) (w : Bool) (d : Nat) (s n : Nat) : It := .gd j g w (some d) (.lt (some d) (.fad (.tmp s) n))
abbrev zc (j d : Nat) (s : Nat) : It := .o j (.lt (some d) (.nilc (.tmp s)))
abbrev yc (j g : Nat) (w : Bool) (d : Nat) (s : Nat) : It := .gd j g w (some d) (.lt (some d) (.nilc (.tmp s)))
abbrev zx (j d : Nat) (n s t : Nat) : It := .o j (.lt (some d) (.ixS n (.tmp s) (.tmp t)))
abbrev yx (j g : Nat) (w : Bool) (d : Nat) (n s t : Nat) : It := .gd j g w (some d) (.lt (some d) (.ixS n (.tmp s) (.tmp t)))
abbrev zn (j d : Nat) (s : Nat) : It := .o j (.lt (some d) (.lenSl (.tmp s)))
abbrev yn (j g : Nat) (w : Bool) (d : Nat) (s : Nat) : It := .gd j g w (some d) (.lt (some d) (.lenSl (.tmp s)))
abbrev zq (j d : Nat) (s : Nat) : It := .o j (.lt (some d) (.un .not (.tmp s)))
abbrev yq (j g : Nat) (w : Bool) (d : Nat) (s : Nat) : It := .gd j g w (some d) (.lt (some d) (.un .not (.tmp s)))
abbrev zp (j d : Nat) (s : Nat) (b : Bool) (t : Nat) : It := .o j (.lt (some d) (.pick (.tmp s) (.const (.bool b)) (.tmp t)))
abbrev yp (j g : Nat) (w : Bool) (d : Nat) (s : Nat) (b : Bool) (t : Nat) : It := .gd j g w (some d) (.lt (some d) (.pick (.tmp s) (.const (.bool b)) (.tmp t)))
abbrev zr (j d : Nat) (s t : Nat) (b : Bool) : It := .o j (.lt (some d) (.pick (.tmp s) (.tmp t) (.const (.bool b))))
abbrev yr (j g : Nat) (w : Bool) (d : Nat) (s t : Nat) (b : Bool) : It := .gd j g w (some d) (.lt (some d) (.pick (.tmp s) (.tmp t) (.const (.bool b))))
abbrev za (j d : Nat) (o : BinOp) (s t : Nat) : It := .o j (.lt (some d) (.bin o (.tmp s) (.tmp t)))
abbrev ya (j g : Nat) (w : Bool) (d : Nat) (o : BinOp) (s t : Nat) : It := .gd j g w (some d) (.lt (some d) (.bin o (.tmp s) (.tmp t)))
abbrev zd (j d : Nat) (o : BinOp) (s : Nat) (n : Int) : It := .o j (.lt (some d) (.bin o (.tmp s) (.const (.int .i64 n))))
abbrev yd (j g : Nat) (w : Bool) (d : Nat) (o : BinOp) (s : Nat) (n : Int) : It := .gd j g w (some d) (.lt (some d) (.bin o (.tmp s) (.const (.int .i64 n))))
abbrev ze (j d : Nat) (s n : Nat) : It := .o j (.lt (some d) (.ext (.tmp s) n))
abbrev zz (j d : Nat) (n : Nat) (b : Bool) (s : Nat) : It := .o j (.lt (some d) (.eqZ n b (.tmp s)))
abbrev yz (j g : Nat) (w : Bool) (d : Nat) (n : Nat) (b : Bool) (s : Nat) : It := .gd j g w (some d) (.lt (some d) (.eqZ n b (.tmp s)))
abbrev rk (l : List Nat) : RA := { gs := [], keep := some l }
abbrev rp (l : List Nat) (a : List (Nat × List Nat)) : RA := { gs := [], keep := some l, aps := a }
abbrev ro (l : List Nat) (o : List Nat) : RA := { gs := [], keep := some l, ord := o }
abbrev rq (l : List Nat) (o : List Nat) (a : List (Nat × List Nat)) : RA := { gs := [], keep := some l, ord := o, aps := a }
end Go.Abs.G

namespace Go.Abs.G
open Go.Proofs
set_option linter.unusedVariables false
-- slices.Sort[[]int,int]
-- slices.pdqsortOrdered[int]
-- math/bits.Len
-- slices.insertionSortOrdered[int]
-- slices.heapSortOrdered[int]
-- slices.breakPatternsOrdered[int]
-- slices.choosePivotOrdered[int]
-- slices.reverseRangeOrdered[int]
-- slices.partialInsertionSortOrdered[int]
-- cmp.Less[int]
-- slices.partitionEqualOrdered[int]
-- slices.partitionOrdered[int]
-- math/bits.Len32
-- math/bits.Len64
-- slices.siftDownOrdered[int]
-- slices.nextPowerOfTwo
-- (*slices.xorshift).Next
-- slices.medianAdjacentOrdered[int]
-- slices.medianOrdered[int]
-- cmp.isNaN[int]
-- slices.order2Ordered[int]
end Go.Abs.G

namespace Go.Abs.G
open Go.Proofs
set_option linter.unusedVariables false
def hallmarklaw17_BranchScripts.id : FuncId := 3
@[simp] theorem hallmarklaw17_BranchScripts.okf : okFunc Try.prog hallmarklaw17_BranchScripts.id = true := by kernel_rfl
def hallmarklaw17_known.id : FuncId := 4
@[simp] theorem hallmarklaw17_known.okf : okFunc Try.prog hallmarklaw17_known.id = true := by kernel_rfl
def branch_New.id : FuncId := 5
@[simp] theorem branch_New.okf : okFunc Try.prog branch_New.id = true := by kernel_rfl
def hallmarkref17_New.id : FuncId := 6
@[simp] theorem hallmarkref17_New.okf : okFunc Try.prog hallmarkref17_New.id = true := by kernel_rfl
def branch_list_Next.id : FuncId := 7
@[simp] theorem branch_list_Next.okf : okFunc Try.prog branch_list_Next.id = true := by kernel_rfl
def hallmarkref17_Script_Next.id : FuncId := 8
@[simp] theorem hallmarkref17_Script_Next.okf : okFunc Try.prog hallmarkref17_Script_Next.id = true := by kernel_rfl
def branch_Script_Copy.id : FuncId := 9
@[simp] theorem branch_Script_Copy.okf : okFunc Try.prog branch_Script_Copy.id = true := by kernel_rfl
def hallmarkref17_Script_Copy.id : FuncId := 10
@[simp] theorem hallmarkref17_Script_Copy.okf : okFunc Try.prog hallmarkref17_Script_Copy.id = true := by kernel_rfl
def dom_New.id : FuncId := 11
@[simp] theorem dom_New.okf : okFunc Try.prog dom_New.id = true := by kernel_rfl
def branch_Pick.id : FuncId := 12
@[simp] theorem branch_Pick.okf : okFunc Try.prog branch_Pick.id = true := by kernel_rfl
def slices_Clone_Lint_int.id : FuncId := 13
@[simp] theorem slices_Clone_Lint_int.okf : okFunc Try.prog slices_Clone_Lint_int.id = true := by kernel_rfl
def model_Check.id : FuncId := 14
@[simp] theorem model_Check.okf : okFunc Try.prog model_Check.id = true := by kernel_rfl
def dom_Store_Open.id : FuncId := 15
@[simp] theorem dom_Store_Open.okf : okFunc Try.prog dom_Store_Open.id = true := by kernel_rfl
def branch_divided.id : FuncId := 16
@[simp] theorem branch_divided.okf : okFunc Try.prog branch_divided.id = true := by kernel_rfl
def dom_Store_Hi.id : FuncId := 17
@[simp] theorem dom_Store_Hi.okf : okFunc Try.prog dom_Store_Hi.id = true := by kernel_rfl
def dom_Store_Lo.id : FuncId := 18
@[simp] theorem dom_Store_Lo.okf : okFunc Try.prog dom_Store_Lo.id = true := by kernel_rfl
def model_variable.id : FuncId := 19
@[simp] theorem model_variable.okf : okFunc Try.prog model_variable.id = true := by kernel_rfl
def model_con.id : FuncId := 20
@[simp] theorem model_con.okf : okFunc Try.prog model_con.id = true := by kernel_rfl
def model_goal.id : FuncId := 21
@[simp] theorem model_goal.okf : okFunc Try.prog model_goal.id = true := by kernel_rfl
def dom_Store_Size.id : FuncId := 22
@[simp] theorem dom_Store_Size.okf : okFunc Try.prog dom_Store_Size.id = true := by kernel_rfl
def dom_Store_is.id : FuncId := 23
@[simp] theorem dom_Store_is.okf : okFunc Try.prog dom_Store_is.id = true := by kernel_rfl
def dom_Store_Values.id : FuncId := 24
@[simp] theorem dom_Store_Values.okf : okFunc Try.prog dom_Store_Values.id = true := by kernel_rfl
def model_isName.id : FuncId := 25
@[simp] theorem model_isName.okf : okFunc Try.prog model_isName.id = true := by kernel_rfl
def slices_ContainsFunc_Lapi_Var_api_Var.id : FuncId := 26
@[simp] theorem slices_ContainsFunc_Lapi_Var_api_Var.okf : okFunc Try.prog slices_ContainsFunc_Lapi_Var_api_Var.id = true := by kernel_rfl
def model_variable_1.id : FuncId := 27
@[simp] theorem model_variable_1.okf : okFunc Try.prog model_variable_1.id = true := by kernel_rfl
def model_within.id : FuncId := 28
@[simp] theorem model_within.okf : okFunc Try.prog model_within.id = true := by kernel_rfl
def model_kinds.id : FuncId := 29
@[simp] theorem model_kinds.okf : okFunc Try.prog model_kinds.id = true := by kernel_rfl
def model_terms.id : FuncId := 30
@[simp] theorem model_terms.okf : okFunc Try.prog model_terms.id = true := by kernel_rfl
def model_con_1.id : FuncId := 31
@[simp] theorem model_con_1.okf : okFunc Try.prog model_con_1.id = true := by kernel_rfl
def model_field.id : FuncId := 32
@[simp] theorem model_field.okf : okFunc Try.prog model_field.id = true := by kernel_rfl
def model_counts.id : FuncId := 33
@[simp] theorem model_counts.okf : okFunc Try.prog model_counts.id = true := by kernel_rfl
def model_wide.id : FuncId := 34
@[simp] theorem model_wide.okf : okFunc Try.prog model_wide.id = true := by kernel_rfl
def slices_ContainsFunc_Lint_int.id : FuncId := 35
@[simp] theorem slices_ContainsFunc_Lint_int.okf : okFunc Try.prog slices_ContainsFunc_Lint_int.id = true := by kernel_rfl
def model_great.id : FuncId := 36
@[simp] theorem model_great.okf : okFunc Try.prog model_great.id = true := by kernel_rfl
def slices_ContainsFunc_LLint_Lint.id : FuncId := 37
@[simp] theorem slices_ContainsFunc_LLint_Lint.okf : okFunc Try.prog slices_ContainsFunc_LLint_Lint.id = true := by kernel_rfl
def dom_set_size.id : FuncId := 38
@[simp] theorem dom_set_size.okf : okFunc Try.prog dom_set_size.id = true := by kernel_rfl
def dom_set_has.id : FuncId := 39
@[simp] theorem dom_set_has.okf : okFunc Try.prog dom_set_has.id = true := by kernel_rfl
def slices_IndexFunc_Lapi_Var_api_Var.id : FuncId := 40
@[simp] theorem slices_IndexFunc_Lapi_Var_api_Var.okf : okFunc Try.prog slices_IndexFunc_Lapi_Var_api_Var.id = true := by kernel_rfl
def model_lin.id : FuncId := 41
@[simp] theorem model_lin.okf : okFunc Try.prog model_lin.id = true := by kernel_rfl
def model_kinds_1.id : FuncId := 42
@[simp] theorem model_kinds_1.okf : okFunc Try.prog model_kinds_1.id = true := by kernel_rfl
def model_allDiff.id : FuncId := 43
@[simp] theorem model_allDiff.okf : okFunc Try.prog model_allDiff.id = true := by kernel_rfl
def model_element.id : FuncId := 44
@[simp] theorem model_element.okf : okFunc Try.prog model_element.id = true := by kernel_rfl
def model_kinds_2.id : FuncId := 45
@[simp] theorem model_kinds_2.okf : okFunc Try.prog model_kinds_2.id = true := by kernel_rfl
def model_kinds_3.id : FuncId := 48
@[simp] theorem model_kinds_3.okf : okFunc Try.prog model_kinds_3.id = true := by kernel_rfl
def model_reif.id : FuncId := 50
@[simp] theorem model_reif.okf : okFunc Try.prog model_reif.id = true := by kernel_rfl
def model_table.id : FuncId := 51
@[simp] theorem model_table.okf : okFunc Try.prog model_table.id = true := by kernel_rfl
def model_count.id : FuncId := 52
@[simp] theorem model_count.okf : okFunc Try.prog model_count.id = true := by kernel_rfl
def model_wide_1.id : FuncId := 53
@[simp] theorem model_wide_1.okf : okFunc Try.prog model_wide_1.id = true := by kernel_rfl
def slices_IndexFunc_Lint_int.id : FuncId := 54
@[simp] theorem slices_IndexFunc_Lint_int.okf : okFunc Try.prog slices_IndexFunc_Lint_int.id = true := by kernel_rfl
def model_great_1.id : FuncId := 55
@[simp] theorem model_great_1.okf : okFunc Try.prog model_great_1.id = true := by kernel_rfl
def slices_IndexFunc_LLint_Lint.id : FuncId := 56
@[simp] theorem slices_IndexFunc_LLint_Lint.okf : okFunc Try.prog slices_IndexFunc_LLint_Lint.id = true := by kernel_rfl
def math_bits_OnesCount32.id : FuncId := 57
@[simp] theorem math_bits_OnesCount32.okf : okFunc Try.prog math_bits_OnesCount32.id = true := by kernel_rfl
-- hallmark/hallmarklaw17.BranchScripts
def hallmarklaw17_BranchScripts.ann : List (Nat × RA) := [(0, rk [0, 1, 2]), (1, rk [0, 1, 2, 17]), (2, rk [6]), (3, rk [0, 1, 2, 33]), (4, rk [6]), (5, rp [0, 1, 2, 7] [(2, [1000004])]), (6, rp [0, 1, 2, 7, 8, 9] [(4, [1000000]), (7, [1000000])]), (7, rk [0, 1, 2, 7, 8, 9, 59]), (8, rk [6]), (9, rk [0, 1, 2, 7, 8, 9, 10]), (10, rk [0, 1, 2, 7, 8, 9, 10, 63]), (11, rk [0, 1, 2, 7, 8, 9, 10]), (12, rk [0, 1, 2, 7, 8, 9, 10]), (13, rp [2, 8, 9, 11, 12] [(1, [1000002]), (3, [1000002])]), (14, rk [2, 8, 9, 11, 12, 13]), (15, rk [2, 8, 9, 11, 12, 13, 75]), (16, rk [2, 8, 9, 11, 12, 13]), (17, rp [2, 8, 9, 11, 12, 13, 98] [(3, [1000000]), (5, [1000000]), (15, [1000000]), (17, [1000000])]), (18, rk [6]), (19, rk [2, 8, 9, 11, 12, 13, 101]), (20, rp [2, 8, 9, 11, 12, 13, 14] [(1, [1000000])]), (21, rp [2, 8, 9, 11, 12, 13, 14, 15] [(1, [1000000])]), (22, rp [2, 8, 9, 11, 12, 13, 125] [(6, [1000000]), (8, [1000000]), (15, [1000000]), (17, [1000000])]), (23, rk [6]), (24, rk [6])]
def hallmarklaw17_BranchScripts.b1 : C := .seq (.seq (.reg 0 [zm 0 73 13, zm 1 74 2, za 2 75 .lss 73 74, .g (.keep [2, 8, 9, 11, 12, 13, 75])]) (.cond (.tmp 75) (.skip) (.exit 2))) (.seq (.block 3 (.seq (.seq (.reg 0 [zm 0 78 8, zc 1 79 78, zf 2 80 79 0, .o 3 (.callm (some 81) (.func branch_list_Next.id) [(.tmp 80)]), zm 4 82 11, .o 5 (.callm (some 83) (.func hallmarkref17_Script_Next.id) [(.tmp 82)]), za 6 84 .neq 81 83, zm 7 85 84, ym 8 85 false 86 13, yd 9 85 false 87 .rem 86 2, yd 10 85 false 88 .eql 87 0, ym 11 85 false 89 88, ym 12 89 true 90 9, yc 13 89 true 91 90, yf 14 89 true 92 91 0, .gd 15 89 true (some 93) (.callm (some 93) (.func branch_list_Next.id) [(.tmp 92)]), ym 16 89 true 94 12, .gd 17 89 true (some 95) (.callm (some 95) (.func hallmarkref17_Script_Next.id) [(.tmp 94)]), ya 18 89 true 96 .neq 93 95, yr 19 85 false 97 89 96 false, zp 20 98 85 true 97, .g (.keep [2, 8, 9, 11, 12, 13, 98])]) (.cond (.tmp 98) (.seq (.reg 0 [zb 0 6 false, .g (.keep [6])]) (.ret)) (.skip))) (.seq (.reg 0 [zm 0 99 13, zd 1 100 .rem 99 5, zd 2 101 .eql 100 3, .g (.keep [2, 8, 9, 11, 12, 13, 101])]) (.cond (.tmp 101) (.seq (.reg 0 [zm 0 102 8, .o 1 (.callm (some 103) (.func branch_Script_Copy.id) [(.tmp 102)]), zm 2 14 103, .g (.keep [2, 8, 9, 11, 12, 13, 14])]) (.seq (.reg 0 [zm 0 104 11, .o 1 (.callm (some 105) (.func hallmarkref17_Script_Copy.id) [(.tmp 104)]), zm 2 15 105, .g (.keep [2, 8, 9, 11, 12, 13, 14, 15])]) (.seq (.reg 0 [zm 0 106 14, zz 1 107 0 false 106, zm 2 108 107, ym 3 108 false 109 14, yc 4 108 false 110 109, yf 5 108 false 111 110 0, .gd 6 108 false (some 112) (.callm (some 112) (.func branch_list_Next.id) [(.tmp 111)]), ym 7 108 false 113 15, .gd 8 108 false (some 114) (.callm (some 114) (.func hallmarkref17_Script_Next.id) [(.tmp 113)]), ya 9 108 false 115 .neq 112 114, zp 10 116 108 true 115, zm 11 117 116, ym 12 117 false 118 14, yc 13 117 false 119 118, yf 14 117 false 120 119 0, .gd 15 117 false (some 121) (.callm (some 121) (.func branch_list_Next.id) [(.tmp 120)]), ym 16 117 false 122 15, .gd 17 117 false (some 123) (.callm (some 123) (.func hallmarkref17_Script_Next.id) [(.tmp 122)]), ya 18 117 false 124 .neq 121 123, zp 19 125 117 true 124, .g (.keep [2, 8, 9, 11, 12, 13, 125])]) (.cond (.tmp 125) (.seq (.reg 0 [zb 0 6 false, .g (.keep [6])]) (.ret)) (.skip))))) (.skip))))) (.reg 0 [zm 0 76 13, zd 1 77 .add 76 1, zm 2 13 77, .g (.keep [2, 8, 9, 11, 12, 13])]))
def hallmarklaw17_BranchScripts.b0 : C := .seq (.seq (.reg 0 [zm 0 60 10, zm 1 61 7, zn 2 62 61, za 3 63 .lss 60 62, .g (.keep [0, 1, 2, 7, 8, 9, 10, 63])]) (.cond (.tmp 63) (.skip) (.exit 0))) (.seq (.block 1 (.reg 0 [zm 0 66 7, zm 1 67 10, zx 2 68 1 66 67, .o 3 (.store [] 1 (.tmp 68) (.const (.int .i64 77))), .g (.keep [0, 1, 2, 7, 8, 9, 10])])) (.reg 0 [zm 0 64 10, zd 1 65 .add 64 1, zm 2 10 65, .g (.keep [0, 1, 2, 7, 8, 9, 10])]))
def hallmarklaw17_BranchScripts.ir : C := .seq (.reg 0 [zb 0 6 false, .g (.keep [0, 1, 2])]) (.seq (.seq (.reg 0 [.o 0 (.call (some 16) hallmarklaw17_known.id []), zq 1 17 16, .g (.keep [0, 1, 2, 17])]) (.cond (.tmp 17) (.seq (.reg 0 [zb 0 6 false, .g (.keep [6])]) (.ret)) (.skip))) (.seq (.seq (.reg 0 [zm 0 18 0, zn 1 19 18, zd 2 20 .gtr 19 65536, zm 3 21 20, ym 4 21 false 22 1, yn 5 21 false 23 22, yd 6 21 false 24 .gtr 23 65536, zp 7 25 21 true 24, zm 8 26 25, ym 9 26 false 27 2, yd 10 26 false 28 .lss 27 0, zp 11 29 26 true 28, zm 12 30 29, ym 13 30 false 31 2, yd 14 30 false 32 .gtr 31 300, zp 15 33 30 true 32, .g (.keep [0, 1, 2, 33])]) (.cond (.tmp 33) (.seq (.reg 0 [zb 0 6 true, .g (.keep [6])]) (.ret)) (.skip))) (.seq (.reg 3 [zm 0 34 0, .o 1 (.app [] (some 35) 0 1 8 (.const (.slice none 0 0)) (.tmp 34)), .o 2 (.bsv (some 36) 1 2 [.a (.int .i64 0)] [(0, (.const (.int .i64 9))), (1, (.const (.int .i64 9)))]), .o 3 (.app [] (some 37) 2 1 8 (.tmp 35) (.tmp 36)), zm 4 7 37, .g (.keep [0, 1, 2, 7])]) (.seq (.reg 1 [zm 0 38 7, zm 1 39 0, zn 2 40 39, .o 3 (.lt (some 41) (.slSl 1 (.tmp 38) none (some (.tmp 40)))), .o 4 (.callm (some 42) (.func branch_New.id) [(.tmp 41)]), zm 5 43 1, .o 6 (.app [] (some 44) 0 1 8 (.const (.slice none 0 0)) (.tmp 43)), .o 7 (.callm (some 45) (.func branch_New.id) [(.tmp 44)]), zm 8 8 42, zm 9 9 45, .g (.keep [0, 1, 2, 7, 8, 9])]) (.seq (.seq (.reg 0 [zm 0 46 8, zz 1 47 0 false 46, zm 2 48 47, ym 3 48 false 49 9, yz 4 48 false 50 0 false 49, zp 5 51 48 true 50, zm 6 52 51, ym 7 52 false 53 7, ym 8 52 false 54 0, yn 9 52 false 55 54, yx 10 52 false 56 1 53 55, yl 11 52 false 57 1 56, yd 12 52 false 58 .neq 57 9, zp 13 59 52 true 58, .g (.keep [0, 1, 2, 7, 8, 9, 59])]) (.cond (.tmp 59) (.seq (.reg 0 [zb 0 6 false, .g (.keep [6])]) (.ret)) (.skip))) (.seq (.seq (.reg 0 [zk 0 10 0, .g (.keep [0, 1, 2, 7, 8, 9, 10])]) (.block 0 (.loop hallmarklaw17_BranchScripts.b0))) (.seq (.reg 0 [zm 0 69 0, .o 1 (.callo (some 70) (.func hallmarkref17_New.id) [(.tmp 69)]), zm 2 71 1, .o 3 (.callo (some 72) (.func hallmarkref17_New.id) [(.tmp 71)]), zm 4 11 70, zm 5 12 72, .g (.keep [2, 8, 9, 11, 12])]) (.seq (.seq (.reg 0 [zk 0 13 0, .g (.keep [2, 8, 9, 11, 12, 13])]) (.block 2 (.loop hallmarklaw17_BranchScripts.b1))) (.seq (.reg 0 [zb 0 6 true, .g (.keep [6])]) (.ret))))))))))
def hallmarklaw17_BranchScripts.rs : List Rs := [.sl 6]
theorem hallmarklaw17_BranchScripts.ok : isFn Try.prog hallmarklaw17_BranchScripts.id 126 hallmarklaw17_BranchScripts.ann hallmarklaw17_BranchScripts.ir hallmarklaw17_BranchScripts.rs := ⟨Try.f3, _, Try.func3, rfl, rfl, by kernel_rfl, by kernel_rfl⟩
-- hallmark/hallmarklaw17.known
def hallmarklaw17_known.ann : List (Nat × RA) := [(0, rk []), (1, rp [1] [(3, [1000004]), (5, [1000002])]), (2, rp [1, 2] [(0, [1000004]), (1, [1000000])]), (3, rp [1, 43] [(10, [1000000]), (17, [1000000]), (24, [1000000])]), (4, rk [0]), (5, rp [1, 3, 4, 5] [(1, [1000000])]), (6, rp [3, 4, 5, 6, 7, 8] [(1, [1000000])]), (7, rk [0])]
def hallmarklaw17_known.ir : C := .seq (.reg 0 [zb 0 0 false, .g (.keep [])]) (.seq (.reg 1 [.o 0 (.lt (some 9) (.build [.a (.string ⟨#[]⟩), .a (.int .i64 0), .a (.int .i64 0)] [(0, 1, (.const (.string { data := #[120] }))), (2, 1, (.const (.int .i64 3)))])), .o 1 (.lt (some 10) (.build [.a (.string ⟨#[]⟩), .a (.int .i64 0), .a (.int .i64 0)] [(0, 1, (.const (.string { data := #[121] }))), (1, 1, (.const (.int .i64 7))), (2, 1, (.const (.int .i64 7)))])), .o 2 (.lt (some 11) (.build [.a (.string ⟨#[]⟩), .a (.int .i64 0), .a (.int .i64 0)] [(0, 1, (.const (.string { data := #[122] }))), (1, 1, (.const (.int .i64 1))), (2, 1, (.const (.int .i64 2)))])), .o 3 (.bsv (some 12) 3 3 [.a (.string ⟨#[]⟩), .a (.int .i64 0), .a (.int .i64 0)] [(0, (.tmp 9)), (1, (.tmp 10)), (2, (.tmp 11))]), .o 4 (.lt (some 13) (.build [.a (.slice none 0 0), .a (.slice none 0 0), .a (.bool false), .a (.slice none 0 0)] [(0, 1, (.tmp 12))])), .o 5 (.callo (some 14) (.func dom_New.id) [(.tmp 13)]), zm 6 1 14, .g (.keep [1])]) (.seq (.reg 1 [.o 0 (.bsv (some 15) 1 2 [.a (.int .i64 0)] [(0, (.const (.int .i64 4))), (1, (.const (.int .i64 5)))]), .o 1 (.callm (some 16) (.func branch_New.id) [(.tmp 15)]), zm 2 2 16, .g (.keep [1, 2])]) (.seq (.seq (.reg 0 [zm 0 17 1, zz 1 18 0 false 17, zm 2 19 18, ym 3 19 false 20 2, yz 4 19 false 21 0 false 20, zp 5 22 19 true 21, zm 6 23 22, ym 7 23 false 24 2, yc 8 23 false 25 24, yf 9 23 false 26 25 0, .gd 10 23 false (some 27) (.callm (some 27) (.func branch_list_Next.id) [(.tmp 26)]), yd 11 23 false 28 .neq 27 4, zp 12 29 23 true 28, zm 13 30 29, ym 14 30 false 31 2, yc 15 30 false 32 31, yf 16 30 false 33 32 0, .gd 17 30 false (some 34) (.callm (some 34) (.func branch_list_Next.id) [(.tmp 33)]), yd 18 30 false 35 .neq 34 5, zp 19 36 30 true 35, zm 20 37 36, ym 21 37 false 38 2, yc 22 37 false 39 38, yf 23 37 false 40 39 0, .gd 24 37 false (some 41) (.callm (some 41) (.func branch_list_Next.id) [(.tmp 40)]), yd 25 37 false 42 .neq 41 0, zp 26 43 37 true 42, .g (.keep [1, 43])]) (.cond (.tmp 43) (.seq (.reg 0 [zb 0 0 false, .g (.keep [0])]) (.ret)) (.skip))) (.seq (.reg 0 [zm 0 45 1, .o 1 (.callm (some 46) (.func branch_Pick.id) [(.tmp 45), (.const (.int .i64 (-2)))]), zm 2 44 46, ze 3 47 44 0, ze 4 48 44 1, ze 5 49 44 2, zm 6 3 47, zm 7 4 48, zm 8 5 49, .g (.keep [1, 3, 4, 5])]) (.seq (.reg 0 [zm 0 51 1, .o 1 (.callm (some 52) (.func branch_Pick.id) [(.tmp 51), (.const (.int .i64 5))]), zm 2 50 52, ze 3 53 50 0, ze 4 54 50 1, ze 5 55 50 2, zm 6 6 53, zm 7 7 54, zm 8 8 55, .g (.keep [3, 4, 5, 6, 7, 8])]) (.seq (.reg 0 [zm 0 56 5, zm 1 57 56, ym 2 57 true 58 8, zr 3 59 57 58 false, zm 4 60 59, ym 5 60 true 61 3, yd 6 60 true 62 .eql 61 0, zr 7 63 60 62 false, zm 8 64 63, ym 9 64 true 65 4, yd 10 64 true 66 .eql 65 3, zr 11 67 64 66 false, zm 12 68 67, ym 13 68 true 69 6, yd 14 68 true 70 .eql 69 2, zr 15 71 68 70 false, zm 16 72 71, ym 17 72 true 73 7, yd 18 72 true 74 .eql 73 2, zr 19 75 72 74 false, zm 20 0 75, .g (.keep [0])]) (.ret)))))))
def hallmarklaw17_known.rs : List Rs := [.sl 0]
theorem hallmarklaw17_known.ok : isFn Try.prog hallmarklaw17_known.id 76 hallmarklaw17_known.ann hallmarklaw17_known.ir hallmarklaw17_known.rs := ⟨Try.f4, _, Try.func4, rfl, rfl, by kernel_rfl, by kernel_rfl⟩
-- hallmark/branch.New
def branch_New.ann : List (Nat × RA) := [(0, rk [0]), (1, { gs := [(2, [.frz 4])], keep := some [2], aps := [(1, [1000000])] })]
def branch_New.ir : C := .seq (.reg 0 [.o 0 (.lt (some 2) (.mov (.const (.pointer none)))), .g (.keep [0])]) (.seq (.reg 1 [zm 0 3 0, .o 1 (.callm (some 4) (.func slices_Clone_Lint_int.id) [(.tmp 3)]), .g (.frz 4), .o 2 (.lt (some 5) (.build [.a (.slice none 0 0)] [(0, 1, (.tmp 4))])), .o 3 (.lt (some 6) (.build [.a (.slice none 0 0)] [(0, 1, (.tmp 5))])), .o 4 (.box (some 7) 0 1 (.tmp 6)), zm 5 2 7, .g (.keep [2])]) (.ret))
def branch_New.rs : List Rs := [.sl 2]
theorem branch_New.ok : isFn Try.prog branch_New.id 8 branch_New.ann branch_New.ir branch_New.rs := ⟨Try.f5, _, Try.func5, rfl, rfl, by kernel_rfl, by kernel_rfl⟩
-- hallmark/hallmarkref17.New
def hallmarkref17_New.ann : List (Nat × RA) := [(0, rk [0]), (1, { gs := [(2, [.frz 4])], keep := some [2] })]
def hallmarkref17_New.ir : C := .seq (.reg 0 [.o 0 (.lt (some 2) (.mov (.const (.pointer none)))), .g (.keep [0])]) (.seq (.reg 2 [zm 0 3 0, .o 1 (.app [] (some 4) 0 1 8 (.const (.slice none 0 0)) (.tmp 3)), .g (.frz 4), .o 2 (.lt (some 5) (.build [.a (.slice none 0 0), .a (.int .i64 0)] [(0, 1, (.tmp 4))])), .o 3 (.box (some 6) 1 2 (.tmp 5)), zm 4 2 6, .g (.keep [2])]) (.ret))
def hallmarkref17_New.rs : List Rs := [.sl 2]
theorem hallmarkref17_New.ok : isFn Try.prog hallmarkref17_New.id 7 hallmarkref17_New.ann hallmarkref17_New.ir hallmarkref17_New.rs := ⟨Try.f6, _, Try.func6, rfl, rfl, by kernel_rfl, by kernel_rfl⟩
-- (*hallmark/branch.list).Next
def branch_list_Next.ann : List (Nat × RA) := [(0, rk [0]), (1, rk [0, 9]), (2, rk [2]), (3, rk [0, 3]), (4, rk [3]), (5, rk [2])]
def branch_list_Next.ir : C := .seq (.reg 0 [zk 0 2 0, .g (.keep [0])]) (.seq (.seq (.reg 0 [zm 0 4 0, zc 1 5 4, zf 2 6 5 0, zl 3 7 1 6, zn 4 8 7, zd 5 9 .eql 8 0, .g (.keep [0, 9])]) (.cond (.tmp 9) (.seq (.reg 0 [zk 0 2 0, .g (.keep [2])]) (.ret)) (.skip))) (.seq (.reg 0 [zm 0 10 0, zc 1 11 10, zf 2 12 11 0, zl 3 13 1 12, .o 4 (.lt (some 14) (.ixS 1 (.tmp 13) (.const (.int .i64 0)))), zl 5 15 1 14, zm 6 3 15, .g (.keep [0, 3])]) (.seq (.reg 0 [zm 0 16 0, zm 1 17 0, zc 2 18 17, zf 3 19 18 0, zl 4 20 1 19, .o 5 (.lt (some 21) (.slSl 1 (.tmp 20) (some (.const (.int .i64 1))) none)), zc 6 22 16, zf 7 23 22 0, .o 8 (.store [] 1 (.tmp 23) (.tmp 21)), .g (.keep [3])]) (.seq (.reg 0 [zm 0 24 3, zm 1 2 24, .g (.keep [2])]) (.ret)))))
def branch_list_Next.rs : List Rs := [.sl 2]
theorem branch_list_Next.ok : isFn Try.prog branch_list_Next.id 25 branch_list_Next.ann branch_list_Next.ir branch_list_Next.rs := ⟨Try.f7, _, Try.func7, rfl, rfl, by kernel_rfl, by kernel_rfl⟩
-- (*hallmark/hallmarkref17.Script).Next
def hallmarkref17_Script_Next.ann : List (Nat × RA) := [(0, rk [0]), (1, ro [0, 12] [0, 1, 2, 3, 4, 5, 6, 7, 8, 9]), (2, rk [2]), (3, rk [0]), (4, ro [2] [0, 1, 2, 3, 4, 5, 6, 7, 8, 9, 10, 11])]
def hallmarkref17_Script_Next.ir : C := .seq (.reg 0 [zk 0 2 0, .g (.keep [0])]) (.seq (.seq (.reg 0 [zm 0 3 0, zc 1 4 3, zf 2 5 4 1, zl 3 6 1 5, zm 4 7 0, zc 5 8 7, zf 6 9 8 0, zl 7 10 1 9, zn 8 11 10, za 9 12 .geq 6 11, .g (.keep [0, 12])]) (.cond (.tmp 12) (.seq (.reg 0 [zk 0 2 0, .g (.keep [2])]) (.ret)) (.skip))) (.seq (.reg 0 [zm 0 13 0, zc 1 14 13, zf 2 15 14 1, zl 3 16 1 15, zd 4 17 .add 16 1, zc 5 18 13, zf 6 19 18 1, .o 7 (.store [] 1 (.tmp 19) (.tmp 17)), .g (.keep [0])]) (.seq (.reg 0 [zm 0 20 0, zc 1 21 20, zf 2 22 21 0, zl 3 23 1 22, zm 4 24 0, zc 5 25 24, zf 6 26 25 1, zl 7 27 1 26, zd 8 28 .sub 27 1, zx 9 29 1 23 28, zl 10 30 1 29, zm 11 2 30, .g (.keep [2])]) (.ret))))
def hallmarkref17_Script_Next.rs : List Rs := [.sl 2]
theorem hallmarkref17_Script_Next.ok : isFn Try.prog hallmarkref17_Script_Next.id 31 hallmarkref17_Script_Next.ann hallmarkref17_Script_Next.ir hallmarkref17_Script_Next.rs := ⟨Try.f8, _, Try.func8, rfl, rfl, by kernel_rfl, by kernel_rfl⟩
-- (*hallmark/branch.Script).Copy
def branch_Script_Copy.ann : List (Nat × RA) := [(0, rk [0]), (1, { gs := [(6, [.frz 8])], keep := some [2], aps := [(5, [1000000])] })]
def branch_Script_Copy.ir : C := .seq (.reg 0 [.o 0 (.lt (some 2) (.mov (.const (.pointer none)))), .g (.keep [0])]) (.seq (.reg 1 [zm 0 3 0, zc 1 4 3, zf 2 5 4 0, zf 3 6 5 0, zl 4 7 1 6, .o 5 (.callm (some 8) (.func slices_Clone_Lint_int.id) [(.tmp 7)]), .g (.frz 8), .o 6 (.lt (some 9) (.build [.a (.slice none 0 0)] [(0, 1, (.tmp 8))])), .o 7 (.lt (some 10) (.build [.a (.slice none 0 0)] [(0, 1, (.tmp 9))])), .o 8 (.box (some 11) 0 1 (.tmp 10)), zm 9 2 11, .g (.keep [2])]) (.ret))
def branch_Script_Copy.rs : List Rs := [.sl 2]
theorem branch_Script_Copy.ok : isFn Try.prog branch_Script_Copy.id 12 branch_Script_Copy.ann branch_Script_Copy.ir branch_Script_Copy.rs := ⟨Try.f9, _, Try.func9, rfl, rfl, by kernel_rfl, by kernel_rfl⟩
-- (*hallmark/hallmarkref17.Script).Copy
def hallmarkref17_Script_Copy.ann : List (Nat × RA) := [(0, rk [0]), (1, ro [2] [0, 1, 2, 3, 4, 5, 6, 7, 8, 9, 10])]
def hallmarkref17_Script_Copy.ir : C := .seq (.reg 0 [.o 0 (.lt (some 2) (.mov (.const (.pointer none)))), .g (.keep [0])]) (.seq (.reg 1 [zm 0 3 0, zc 1 4 3, zf 2 5 4 0, zl 3 6 1 5, zm 4 7 0, zc 5 8 7, zf 6 9 8 1, zl 7 10 1 9, .o 8 (.lt (some 11) (.build [.a (.slice none 0 0), .a (.int .i64 0)] [(0, 1, (.tmp 6)), (1, 1, (.tmp 10))])), .o 9 (.box (some 12) 0 2 (.tmp 11)), zm 10 2 12, .g (.keep [2])]) (.ret))
def hallmarkref17_Script_Copy.rs : List Rs := [.sl 2]
theorem hallmarkref17_Script_Copy.ok : isFn Try.prog hallmarkref17_Script_Copy.id 13 hallmarkref17_Script_Copy.ann hallmarkref17_Script_Copy.ir hallmarkref17_Script_Copy.rs := ⟨Try.f10, _, Try.func10, rfl, rfl, by kernel_rfl, by kernel_rfl⟩
-- hallmark/dom.New
def dom_New.ann : List (Nat × RA) := [(0, rk [1]), (1, rk [1, 3]), (2, rk [1, 3, 5]), (3, rk [1, 3, 18]), (4, { gs := [(0, [.wk])], keep := some [2] }), (5, { gs := [(0, [.wk])], keep := some [3, 21, 22, 23] }), (6, rk [3, 21, 22, 23, 24]), (7, rk [3, 7, 21, 22, 23]), (8, rk [3, 8, 21, 22, 23]), (9, rk [3, 8, 21, 22, 23, 37, 38]), (10, rk [3, 8, 21, 22, 23, 37, 38, 39]), (11, rk [3, 8, 9, 21, 22, 23, 37, 38]), (12, ro [3, 8, 21, 22, 23, 37, 38] [0, 1, 2, 3, 4, 5, 6, 7, 8, 9, 10, 11]), (13, rk [3, 8, 21, 22, 23, 37, 38]), (14, rq [3, 21, 22, 23] [0, 1, 2, 3, 4, 5, 6, 7, 8, 9, 10] [(6, [1000004])]), (15, rk [3, 21, 22, 23]), (16, rk [2])]
def dom_New.b1 : C := .seq (.reg 0 [za 0 39 .lss 38 37, .g (.keep [3, 8, 21, 22, 23, 37, 38, 39])]) (.seq (.cond (.tmp 39) (.skip) (.exit 2)) (.seq (.block 3 (.seq (.reg 0 [zm 0 40 38, zm 1 9 40, .g (.keep [3, 8, 9, 21, 22, 23, 37, 38])]) (.reg 0 [zm 0 41 9, zd 1 42 .quo 41 32, zf 2 43 8 2, .o 3 (.lt (some 44) (.ixA 2 1 (.tmp 43) (.tmp 42))), zl 4 45 1 44, zm 5 46 9, zd 6 47 .rem 46 32, .o 7 (.lt (some 48) (.bin .shl (.const (.int .u32 1)) (.tmp 47))), za 8 49 .or 45 48, zf 9 50 8 2, .o 10 (.lt (some 51) (.ixA 2 1 (.tmp 50) (.tmp 42))), .o 11 (.store [] 1 (.tmp 51) (.tmp 49)), .g (.keep [3, 8, 21, 22, 23, 37, 38])]))) (.reg 0 [zd 0 52 .add 38 1, zm 1 38 52, .g (.keep [3, 8, 21, 22, 23, 37, 38])])))
def dom_New.b0 : C := .seq (.reg 0 [za 0 24 .lss 23 22, .g (.keep [3, 21, 22, 23, 24])]) (.seq (.cond (.tmp 24) (.skip) (.exit 0)) (.seq (.block 1 (.seq (.reg 1 [zx 0 25 3 21 23, zL 1 26 3 25, .o 2 (.alloc (some 7) 0 3 [.a (.string ⟨#[]⟩), .a (.int .i64 0), .a (.int .i64 0)]), .o 3 (.store [] 3 (.tmp 7) (.tmp 26)), .g (.keep [3, 7, 21, 22, 23])]) (.seq (.reg 1 [zf 0 27 7 1, zl 1 28 1 27, zf 2 29 7 2, zl 3 30 1 29, zf 4 31 7 1, zl 5 32 1 31, za 6 33 .sub 30 32, zd 7 34 .add 33 1, .o 8 (.lt (some 35) (.build [.a (.int .i64 0), .a (.int .i64 0), .a (.int .u32 0), .a (.int .u32 0)] [(0, 1, (.tmp 28)), (1, 1, (.tmp 34))])), .o 9 (.alloc (some 8) 0 4 [.a (.int .i64 0), .a (.int .i64 0), .a (.int .u32 0), .a (.int .u32 0)]), .o 10 (.store [] 4 (.tmp 8) (.tmp 35)), .g (.keep [3, 8, 21, 22, 23])]) (.seq (.seq (.reg 0 [zf 0 36 8 1, zl 1 37 1 36, zk 2 38 0, .g (.keep [3, 8, 21, 22, 23, 37, 38])]) (.block 2 (.loop dom_New.b1))) (.reg 2 [zm 0 53 3, zm 1 54 3, zc 2 55 54, zf 3 56 55 0, zl 4 57 1 56, zL 5 58 4 8, .o 6 (.bsv (some 59) 4 1 [.a (.int .i64 0), .a (.int .i64 0), .a (.int .u32 0), .a (.int .u32 0)] [(0, (.tmp 58))]), .o 7 (.app [] (some 60) 1 4 24 (.tmp 57) (.tmp 59)), zc 8 61 53, zf 9 62 61 0, .o 10 (.store [] 1 (.tmp 62) (.tmp 60)), .g (.keep [3, 21, 22, 23])]))))) (.reg 0 [zd 0 63 .add 23 1, zm 1 23 63, .g (.keep [3, 21, 22, 23])])))
def dom_New.ir : C := .seq (.reg 1 [.o 0 (.box (some 1) 0 4 (.tmp 0)), .o 1 (.lt (some 2) (.mov (.const (.pointer none)))), .g (.keep [1])]) (.seq (.reg 1 [.o 0 (.lt (some 10) (.build [.a (.slice none 0 0), .a (.slice none 0 0)] [])), .o 1 (.box (some 11) 0 2 (.tmp 10)), zm 2 3 11, .g (.keep [1, 3])]) (.seq (.seq (.reg 0 [zL 0 13 4 1, .o 1 (.call (some 14) model_Check.id [(.tmp 13)]), zm 2 12 14, ze 3 15 12 0, ze 4 16 12 1, zm 5 4 15, zm 6 5 16, .g (.keep [1, 3, 5])]) (.seq (.reg 0 [zm 0 17 5, zd 1 18 .neq 17 0, .g (.keep [1, 3, 18])]) (.cond (.tmp 18) (.seq (.reg 0 [.g (.wk), zm 0 19 3, zm 1 2 19, .g (.keep [2])]) (.ret)) (.skip)))) (.seq (.seq (.reg 0 [.g (.wk), zf 0 20 1 0, zl 1 21 1 20, zn 2 22 21, zk 3 23 0, .g (.keep [3, 21, 22, 23])]) (.block 0 (.loop dom_New.b0))) (.seq (.reg 0 [zm 0 64 3, zm 1 2 64, .g (.keep [2])]) (.ret)))))
def dom_New.rs : List Rs := [.sl 2]
theorem dom_New.ok : isFn Try.prog dom_New.id 65 dom_New.ann dom_New.ir dom_New.rs := ⟨Try.f11, _, Try.func11, rfl, rfl, by kernel_rfl, by kernel_rfl⟩
-- hallmark/branch.Pick
def branch_Pick.ann : List (Nat × RA) := [(0, rk [0, 1]), (1, rp [0, 1, 7] [(1, [1000000])]), (2, rk [0, 1, 7, 17]), (3, rk [4, 5, 6]), (4, rk [0, 7, 8, 9]), (5, rk [0, 8, 10]), (6, rp [0, 10, 12] [(3, [1000000]), (6, [1000000])]), (7, rp [4, 5, 6] [(3, [1000000])])]
def branch_Pick.ir : C := .seq (.reg 0 [zk 0 4 0, zk 1 5 0, zb 2 6 false, .g (.keep [0, 1])]) (.seq (.reg 0 [zm 0 13 0, .o 1 (.callm (some 14) (.func dom_Store_Open.id) [(.tmp 13)]), zm 2 7 14, .g (.keep [0, 1, 7])]) (.seq (.seq (.reg 0 [zm 0 15 7, zn 1 16 15, zd 2 17 .eql 16 0, .g (.keep [0, 1, 7, 17])]) (.cond (.tmp 17) (.seq (.reg 0 [zk 0 4 0, zk 1 5 0, zb 2 6 false, .g (.keep [4, 5, 6])]) (.ret)) (.skip))) (.seq (.reg 0 [zm 0 19 1, zm 1 20 7, zn 2 21 20, .o 3 (.call (some 22) branch_divided.id [(.tmp 19), (.tmp 21)]), zm 4 18 22, ze 5 23 18 0, ze 6 24 18 1, zm 7 8 23, zm 8 9 24, .g (.keep [0, 7, 8, 9])]) (.seq (.reg 0 [zm 0 25 7, zm 1 26 9, zx 2 27 1 25 26, zl 3 28 1 27, zm 4 10 28, .g (.keep [0, 8, 10])]) (.seq (.reg 0 [zm 0 30 8, zm 1 31 0, zm 2 32 10, .o 3 (.callm (some 33) (.func dom_Store_Hi.id) [(.tmp 31), (.tmp 32)]), zm 4 34 0, zm 5 35 10, .o 6 (.callm (some 36) (.func dom_Store_Lo.id) [(.tmp 34), (.tmp 35)]), za 7 37 .sub 33 36, .o 8 (.call (some 38) branch_divided.id [(.tmp 30), (.tmp 37)]), zm 9 29 38, ze 10 39 29 0, ze 11 40 29 1, zm 12 11 39, zm 13 12 40, .g (.keep [0, 10, 12])]) (.seq (.reg 0 [zm 0 41 10, zm 1 42 0, zm 2 43 10, .o 3 (.callm (some 44) (.func dom_Store_Lo.id) [(.tmp 42), (.tmp 43)]), zd 4 45 .add 44 1, zm 5 46 12, za 6 47 .add 45 46, zm 7 4 41, zm 8 5 47, zb 9 6 true, .g (.keep [4, 5, 6])]) (.ret)))))))
def branch_Pick.rs : List Rs := [.sl 4, .sl 5, .sl 6]
theorem branch_Pick.ok : isFn Try.prog branch_Pick.id 48 branch_Pick.ann branch_Pick.ir branch_Pick.rs := ⟨Try.f12, _, Try.func12, rfl, rfl, by kernel_rfl, by kernel_rfl⟩
-- slices.Clone[[]int,int]
def slices_Clone_Lint_int.ann : List (Nat × RA) := [(0, rk [0]), (1, rk [0, 4]), (2, rk [2]), (3, rk [2])]
def slices_Clone_Lint_int.ir : C := .seq (.reg 0 [.o 0 (.lt (some 2) (.mov (.const (.slice none 0 0)))), .g (.keep [0])]) (.seq (.seq (.reg 0 [zm 0 3 0, .o 1 (.lt (some 4) (.eqN false (.tmp 3))), .g (.keep [0, 4])]) (.cond (.tmp 4) (.seq (.reg 0 [.o 0 (.lt (some 2) (.mov (.const (.slice none 0 0)))), .g (.keep [2])]) (.ret)) (.skip))) (.seq (.reg 2 [.o 0 (.bsl (some 5) 0 1 0 [.a (.int .i64 0)] []), zm 1 6 0, .o 2 (.app [] (some 7) 1 1 8 (.tmp 5) (.tmp 6)), zm 3 2 7, .g (.keep [2])]) (.ret)))
def slices_Clone_Lint_int.rs : List Rs := [.sl 2]
theorem slices_Clone_Lint_int.ok : isFn Try.prog slices_Clone_Lint_int.id 8 slices_Clone_Lint_int.ann slices_Clone_Lint_int.ir slices_Clone_Lint_int.rs := ⟨Try.f13, _, Try.func13, rfl, rfl, by kernel_rfl, by kernel_rfl⟩
-- hallmark/model.Check
def model_Check.ann : List (Nat × RA) := [(0, rk [1]), (1, rk [1, 19]), (2, rk [2, 3]), (3, rk [1, 22, 23]), (4, rk [1, 22, 23, 24]), (5, rk [1, 4, 22, 23]), (6, rk [1, 4, 5, 22, 23]), (7, rk [1, 4, 5, 22, 23, 31]), (8, rk [2, 3]), (9, rk [1, 22, 23]), (10, rk [1, 38]), (11, rk [2, 3]), (12, rk [1, 43, 44, 45]), (13, rk [1, 43, 44, 45, 46]), (14, rk [1, 6, 7, 43, 44, 45]), (15, rk [1, 6, 8, 43, 44, 45]), (16, rk [1, 6, 8, 43, 44, 45, 56]), (17, rk [2, 3]), (18, rk [1, 43, 44, 45]), (19, rk [1, 9]), (20, rk [1, 9, 67]), (21, rk [2, 3]), (22, rk [2, 3])]
def model_Check.b1 : C := .seq (.reg 0 [za 0 46 .lss 45 44, .g (.keep [1, 43, 44, 45, 46])]) (.seq (.cond (.tmp 46) (.skip) (.exit 2)) (.seq (.block 3 (.seq (.reg 1 [zm 0 47 45, zx 1 48 10 43 45, zL 2 49 10 48, .o 3 (.alloc (some 7) 0 10 [.a (.int .i64 0), .a (.int .i64 0), .a (.slice none 0 0), .a (.int .i64 0), .a (.int .i64 0), .a (.int .i64 0), .a (.int .i64 0), .a (.slice none 0 0), .a (.slice none 0 0), .a (.slice none 0 0)]), zm 4 6 47, .o 5 (.store [] 10 (.tmp 7) (.tmp 49)), .g (.keep [1, 6, 7, 43, 44, 45])]) (.seq (.reg 0 [zL 0 50 10 7, zf 1 51 1 0, zl 2 52 1 51, zn 3 53 52, .o 4 (.call (some 54) model_con.id [(.tmp 50), (.tmp 53)]), zm 5 8 54, .g (.keep [1, 6, 8, 43, 44, 45])]) (.seq (.reg 0 [zm 0 55 8, zd 1 56 .neq 55 0, .g (.keep [1, 6, 8, 43, 44, 45, 56])]) (.cond (.tmp 56) (.seq (.reg 0 [zf 0 57 1 0, zl 1 58 1 57, zn 2 59 58, zm 3 60 6, za 4 61 .add 59 60, zm 5 62 8, zm 6 2 61, zm 7 3 62, .g (.keep [2, 3])]) (.ret)) (.skip)))))) (.reg 0 [zd 0 63 .add 45 1, zm 1 45 63, .g (.keep [1, 43, 44, 45])])))
def model_Check.b0 : C := .seq (.reg 0 [za 0 24 .lss 23 22, .g (.keep [1, 22, 23, 24])]) (.seq (.cond (.tmp 24) (.skip) (.exit 0)) (.seq (.block 1 (.seq (.reg 0 [zm 0 25 23, zm 1 4 25, .g (.keep [1, 4, 22, 23])]) (.seq (.reg 0 [zf 0 26 1 0, zl 1 27 1 26, zm 2 28 4, .o 3 (.call (some 29) model_variable.id [(.tmp 27), (.tmp 28)]), zm 4 5 29, .g (.keep [1, 4, 5, 22, 23])]) (.seq (.reg 0 [zm 0 30 5, zd 1 31 .neq 30 0, .g (.keep [1, 4, 5, 22, 23, 31])]) (.cond (.tmp 31) (.seq (.reg 0 [zm 0 32 4, zm 1 33 5, zm 2 2 32, zm 3 3 33, .g (.keep [2, 3])]) (.ret)) (.skip)))))) (.reg 0 [zd 0 34 .add 23 1, zm 1 23 34, .g (.keep [1, 22, 23])])))
def model_Check.ir : C := .seq (.reg 1 [.o 0 (.box (some 1) 0 4 (.tmp 0)), zk 1 2 0, zk 2 3 0, .g (.keep [1])]) (.seq (.seq (.reg 0 [zf 0 10 1 0, zl 1 11 1 10, zn 2 12 11, zd 3 13 .eql 12 0, zm 4 14 13, yf 5 14 false 15 1 0, yl 6 14 false 16 1 15, yn 7 14 false 17 16, yd 8 14 false 18 .gtr 17 32, zp 9 19 14 true 18, .g (.keep [1, 19])]) (.cond (.tmp 19) (.seq (.reg 0 [zk 0 2 0, zk 1 3 40, .g (.keep [2, 3])]) (.ret)) (.skip))) (.seq (.seq (.reg 0 [zf 0 20 1 0, zl 1 21 1 20, zn 2 22 21, zk 3 23 0, .g (.keep [1, 22, 23])]) (.block 0 (.loop model_Check.b0))) (.seq (.seq (.reg 0 [zf 0 35 1 1, zl 1 36 1 35, zn 2 37 36, zd 3 38 .gtr 37 64, .g (.keep [1, 38])]) (.cond (.tmp 38) (.seq (.reg 0 [zf 0 39 1 0, zl 1 40 1 39, zn 2 41 40, zm 3 2 41, zk 4 3 49, .g (.keep [2, 3])]) (.ret)) (.skip))) (.seq (.seq (.reg 0 [zf 0 42 1 1, zl 1 43 1 42, zn 2 44 43, zk 3 45 0, .g (.keep [1, 43, 44, 45])]) (.block 2 (.loop model_Check.b1))) (.seq (.seq (.reg 0 [zL 0 64 4 1, .o 1 (.call (some 65) model_goal.id [(.tmp 64)]), zm 2 9 65, .g (.keep [1, 9])]) (.seq (.reg 0 [zm 0 66 9, zd 1 67 .neq 66 0, .g (.keep [1, 9, 67])]) (.cond (.tmp 67) (.seq (.reg 0 [zf 0 68 1 0, zl 1 69 1 68, zn 2 70 69, zf 3 71 1 1, zl 4 72 1 71, zn 5 73 72, za 6 74 .add 70 73, zm 7 75 9, zm 8 2 74, zm 9 3 75, .g (.keep [2, 3])]) (.ret)) (.skip)))) (.seq (.reg 0 [zk 0 2 0, zk 1 3 0, .g (.keep [2, 3])]) (.ret)))))))
def model_Check.rs : List Rs := [.sl 2, .sl 3]
theorem model_Check.ok : isFn Try.prog model_Check.id 76 model_Check.ann model_Check.ir model_Check.rs := ⟨Try.f14, _, Try.func14, rfl, rfl, by kernel_rfl, by kernel_rfl⟩
-- (*hallmark/dom.Store).Open
def dom_Store_Open.ann : List (Nat × RA) := [(0, rk [0]), (1, rk [0, 3]), (2, rk [0, 3, 9, 10]), (3, rk [0, 3, 9, 10, 11]), (4, rk [0, 3, 4, 9, 10]), (5, rp [0, 3, 4, 9, 10, 16] [(2, [1000000])]), (6, rp [0, 3, 9, 10] [(2, [1000004])]), (7, rk [0, 3, 9, 10]), (8, { gs := [(0, [.frz 3, .nilv 3 1])], keep := some [2] })]
def dom_Store_Open.b0 : C := .seq (.reg 0 [za 0 11 .lss 10 9, .g (.keep [0, 3, 9, 10, 11])]) (.seq (.cond (.tmp 11) (.skip) (.exit 0)) (.seq (.block 1 (.seq (.reg 0 [zm 0 12 10, zm 1 4 12, .g (.keep [0, 3, 4, 9, 10])]) (.seq (.reg 0 [zm 0 13 0, zm 1 14 4, .o 2 (.callm (some 15) (.func dom_Store_Size.id) [(.tmp 13), (.tmp 14)]), zd 3 16 .gtr 15 1, .g (.keep [0, 3, 4, 9, 10, 16])]) (.cond (.tmp 16) (.reg 2 [zm 0 17 3, zm 1 18 4, .o 2 (.bsv (some 19) 1 1 [.a (.int .i64 0)] [(0, (.tmp 18))]), .o 3 (.app [] (some 20) 1 1 8 (.tmp 17) (.tmp 19)), zm 4 3 20, .g (.keep [0, 3, 9, 10])]) (.skip))))) (.reg 0 [zd 0 21 .add 10 1, zm 1 10 21, .g (.keep [0, 3, 9, 10])])))
def dom_Store_Open.ir : C := .seq (.reg 0 [.o 0 (.lt (some 2) (.mov (.const (.slice none 0 0)))), .g (.keep [0])]) (.seq (.reg 0 [.o 0 (.lt (some 3) (.mov (.const (.slice none 0 0)))), .g (.keep [0, 3])]) (.seq (.seq (.reg 0 [zm 0 5 0, zc 1 6 5, zf 2 7 6 0, zl 3 8 1 7, zn 4 9 8, zk 5 10 0, .g (.keep [0, 3, 9, 10])]) (.block 0 (.loop dom_Store_Open.b0))) (.seq (.reg 0 [.g (.frz 3), .g (.nilv 3 1), zm 0 22 3, zm 1 2 22, .g (.keep [2])]) (.ret))))
def dom_Store_Open.rs : List Rs := [.sl 2]
theorem dom_Store_Open.ok : isFn Try.prog dom_Store_Open.id 23 dom_Store_Open.ann dom_Store_Open.ir dom_Store_Open.rs := ⟨Try.f15, _, Try.func15, rfl, rfl, by kernel_rfl, by kernel_rfl⟩
-- hallmark/branch.divided
def branch_divided.ann : List (Nat × RA) := [(0, rk [0, 1]), (1, ro [1, 6, 7] [0, 1, 2, 3, 4, 5, 6, 7]), (2, rk [1, 6, 7, 15]), (3, rk [6, 7]), (4, rk [4, 5])]
def branch_divided.ir : C := .seq (.reg 0 [zk 0 4 0, zk 1 5 0, .g (.keep [0, 1])]) (.seq (.reg 0 [zm 0 8 0, zm 1 9 1, za 2 10 .quo 8 9, zm 3 11 0, zm 4 12 1, za 5 13 .rem 11 12, zm 6 6 10, zm 7 7 13, .g (.keep [1, 6, 7])]) (.seq (.seq (.reg 0 [zm 0 14 7, zd 1 15 .lss 14 0, .g (.keep [1, 6, 7, 15])]) (.cond (.tmp 15) (.reg 0 [zm 0 16 6, zd 1 17 .sub 16 1, zm 2 18 7, zm 3 19 1, za 4 20 .add 18 19, zm 5 6 17, zm 6 7 20, .g (.keep [6, 7])]) (.skip))) (.seq (.reg 0 [zm 0 21 6, zm 1 22 7, zm 2 4 21, zm 3 5 22, .g (.keep [4, 5])]) (.ret))))
def branch_divided.rs : List Rs := [.sl 4, .sl 5]
theorem branch_divided.ok : isFn Try.prog branch_divided.id 23 branch_divided.ann branch_divided.ir branch_divided.rs := ⟨Try.f16, _, Try.func16, rfl, rfl, by kernel_rfl, by kernel_rfl⟩
-- (*hallmark/dom.Store).Hi
def dom_Store_Hi.ann : List (Nat × RA) := [(0, rk [0, 1]), (1, rp [0, 1, 9] [(2, [1000000])]), (2, rk [4]), (3, rp [5] [(2, [1000000])]), (4, rk [4])]
def dom_Store_Hi.ir : C := .seq (.reg 0 [zk 0 4 0, .g (.keep [0, 1])]) (.seq (.seq (.reg 0 [zm 0 6 0, zm 1 7 1, .o 2 (.callm (some 8) (.func dom_Store_is.id) [(.tmp 6), (.tmp 7)]), zq 3 9 8, .g (.keep [0, 1, 9])]) (.cond (.tmp 9) (.seq (.reg 0 [zk 0 4 0, .g (.keep [4])]) (.ret)) (.skip))) (.seq (.reg 0 [zm 0 10 0, zm 1 11 1, .o 2 (.callm (some 12) (.func dom_Store_Values.id) [(.tmp 10), (.tmp 11)]), zm 3 5 12, .g (.keep [5])]) (.seq (.reg 0 [zm 0 13 5, zm 1 14 5, zn 2 15 14, zd 3 16 .sub 15 1, zx 4 17 1 13 16, zl 5 18 1 17, zm 6 4 18, .g (.keep [4])]) (.ret))))
def dom_Store_Hi.rs : List Rs := [.sl 4]
theorem dom_Store_Hi.ok : isFn Try.prog dom_Store_Hi.id 19 dom_Store_Hi.ann dom_Store_Hi.ir dom_Store_Hi.rs := ⟨Try.f17, _, Try.func17, rfl, rfl, by kernel_rfl, by kernel_rfl⟩
-- (*hallmark/dom.Store).Lo
def dom_Store_Lo.ann : List (Nat × RA) := [(0, rk [0, 1]), (1, rp [0, 1, 8] [(2, [1000000])]), (2, rk [4]), (3, rp [4] [(2, [1000000])])]
def dom_Store_Lo.ir : C := .seq (.reg 0 [zk 0 4 0, .g (.keep [0, 1])]) (.seq (.seq (.reg 0 [zm 0 5 0, zm 1 6 1, .o 2 (.callm (some 7) (.func dom_Store_is.id) [(.tmp 5), (.tmp 6)]), zq 3 8 7, .g (.keep [0, 1, 8])]) (.cond (.tmp 8) (.seq (.reg 0 [zk 0 4 0, .g (.keep [4])]) (.ret)) (.skip))) (.seq (.reg 0 [zm 0 9 0, zm 1 10 1, .o 2 (.callm (some 11) (.func dom_Store_Values.id) [(.tmp 9), (.tmp 10)]), .o 3 (.lt (some 12) (.ixS 1 (.tmp 11) (.const (.int .i64 0)))), zl 4 13 1 12, zm 5 4 13, .g (.keep [4])]) (.ret)))
def dom_Store_Lo.rs : List Rs := [.sl 4]
theorem dom_Store_Lo.ok : isFn Try.prog dom_Store_Lo.id 14 dom_Store_Lo.ann dom_Store_Lo.ir dom_Store_Lo.rs := ⟨Try.f18, _, Try.func18, rfl, rfl, by kernel_rfl, by kernel_rfl⟩
-- hallmark/model.variable
def model_variable.ann : List (Nat × RA) := [(0, rk [0, 1]), (1, rk [0, 1, 5]), (2, rp [5, 20] [(9, [1000001])]), (3, rk [4]), (4, rk [45]), (5, rk [4]), (6, rk [4])]
def model_variable.ir : C := .seq (.reg 0 [zk 0 4 0, .g (.keep [0, 1])]) (.seq (.reg 1 [zm 0 6 0, zm 1 7 1, zx 2 8 3 6 7, zL 3 9 3 8, .o 4 (.alloc (some 5) 0 3 [.a (.string ⟨#[]⟩), .a (.int .i64 0), .a (.int .i64 0)]), .o 5 (.store [] 3 (.tmp 5) (.tmp 9)), .g (.keep [0, 1, 5])]) (.seq (.seq (.reg 0 [zf 0 10 5 0, zl 1 11 1 10, .o 2 (.call (some 12) model_isName.id [(.tmp 11)]), zq 3 13 12, zm 4 14 13, ym 5 14 false 15 0, ym 6 14 false 16 1, .gd 7 14 false (some 17) (.lt (some 17) (.slSl 3 (.tmp 15) none (some (.tmp 16)))), .gd 8 14 false (some 18) (.lt (some 18) (.mkfn (.func model_variable_1.id) [] [(.tmp 5)])), .gd 9 14 false (some 19) (.callb (some 19) (.func slices_ContainsFunc_Lapi_Var_api_Var.id) [(.tmp 17), (.tmp 18)]), zp 10 20 14 true 19, .g (.keep [5, 20])]) (.cond (.tmp 20) (.seq (.reg 0 [zk 0 4 41, .g (.keep [4])]) (.ret)) (.skip))) (.seq (.seq (.reg 0 [zf 0 21 5 1, zl 1 22 1 21, .o 2 (.call (some 23) model_within.id [(.tmp 22), (.const (.int .i64 1000000000))]), zq 3 24 23, zm 4 25 24, yf 5 25 false 26 5 2, yl 6 25 false 27 1 26, .gd 7 25 false (some 28) (.call (some 28) model_within.id [(.tmp 27), (.const (.int .i64 1000000000))]), yq 8 25 false 29 28, zp 9 30 25 true 29, zm 10 31 30, yf 11 31 false 32 5 1, yl 12 31 false 33 1 32, yf 13 31 false 34 5 2, yl 14 31 false 35 1 34, ya 15 31 false 36 .gtr 33 35, zp 16 37 31 true 36, zm 17 38 37, yf 18 38 false 39 5 2, yl 19 38 false 40 1 39, yf 20 38 false 41 5 1, yl 21 38 false 42 1 41, ya 22 38 false 43 .sub 40 42, yd 23 38 false 44 .geq 43 64, zp 24 45 38 true 44, .g (.keep [45])]) (.cond (.tmp 45) (.seq (.reg 0 [zk 0 4 42, .g (.keep [4])]) (.ret)) (.skip))) (.seq (.reg 0 [zk 0 4 0, .g (.keep [4])]) (.ret)))))
def model_variable.rs : List Rs := [.sl 4]
theorem model_variable.ok : isFn Try.prog model_variable.id 46 model_variable.ann model_variable.ir model_variable.rs := ⟨Try.f19, _, Try.func19, rfl, rfl, by kernel_rfl, by kernel_rfl⟩
-- hallmark/model.con
def model_con.ann : List (Nat × RA) := [(0, rk [2, 3]), (1, ro [2, 3, 5, 6] [1, 2, 0, 3, 4, 5, 6, 7, 8, 9]), (2, rk [2, 3, 5, 32]), (3, rk [4]), (4, rk [2, 3, 5, 7, 8]), (5, rk [2, 5, 7, 8, 9]), (6, rk [2, 5, 7, 8, 9, 41]), (7, rk [4]), (8, rk [2, 5, 7, 8, 9, 45]), (9, rk [2, 5, 7, 8, 9, 45]), (10, rk [2, 5, 7, 8, 9, 45]), (11, rk [2, 5, 7, 8, 9, 45]), (12, rk [4]), (13, rk [2, 5, 8, 9, 70]), (14, rp [2, 5, 8, 9, 70] [(6, [1000001])]), (15, rp [2, 8, 9, 70] [(6, [1000001])]), (16, rp [2, 8, 70] [(3, [1000001])]), (17, rk [4]), (18, rk [2, 92]), (19, rk [4]), (20, rk [2, 94]), (21, rk [2, 94]), (22, rk [2, 94]), (23, rp [94] [(2, [1000001])]), (24, rk [4]), (25, rk [4])]
def model_con.ir : C := .seq (.reg 2 [.o 0 (.box (some 2) 0 10 (.tmp 0)), .o 1 (.box (some 3) 1 1 (.tmp 1)), zk 2 4 0, .g (.keep [2, 3])]) (.seq (.reg 1 [zf 1 12 2 0, zl 2 13 1 12, .o 0 (.call (some 11) model_kinds.id []), .o 3 (.lt (some 14) (.lkp true .i64 (.agg [.a (.bool false), .a (.bool false), .a (.bool false), .a (.bool false), .a (.bool false), .a (.bool false), .a (.bool false), .a (.bool false), .a (.bool false), .a (.nilFunc)]) (.tmp 11) (.tmp 13))), zm 4 10 14, ze 5 15 10 0, ze 6 16 10 1, .o 7 (.alloc (some 5) 0 10 [.a (.bool false), .a (.bool false), .a (.bool false), .a (.bool false), .a (.bool false), .a (.bool false), .a (.bool false), .a (.bool false), .a (.bool false), .a (.nilFunc)]), .o 8 (.store [] 10 (.tmp 5) (.tmp 15)), zm 9 6 16, .g (.keep [2, 3, 5, 6])]) (.seq (.seq (.reg 0 [zm 0 17 6, zq 1 18 17, zm 2 19 18, yf 3 19 false 20 5 7, yl 4 19 false 21 1 20, ym 5 19 false 22 21, yf 6 22 true 23 2 1, yl 7 22 true 24 1 23, yd 8 22 true 25 .lss 24 1, ym 9 22 true 26 25, yf 10 26 false 27 2 1, yl 11 26 false 28 1 27, yd 12 26 false 29 .gtr 28 3, yp 13 22 true 30 26 true 29, yr 14 19 false 31 22 30 false, zp 15 32 19 true 31, .g (.keep [2, 3, 5, 32])]) (.cond (.tmp 32) (.seq (.reg 0 [zk 0 4 43, .g (.keep [4])]) (.ret)) (.skip))) (.seq (.reg 0 [zf 0 34 2 2, zl 1 35 1 34, zl 2 36 1 3, .o 3 (.call (some 37) model_terms.id [(.tmp 35), (.tmp 36)]), zm 4 33 37, ze 5 38 33 0, ze 6 39 33 1, zm 7 7 38, zm 8 8 39, .g (.keep [2, 3, 5, 7, 8])]) (.seq (.reg 0 [.o 0 (.lt (some 40) (.mkfn (.func model_con_1.id) [] [(.tmp 3)])), zm 1 9 40, .g (.keep [2, 5, 7, 8, 9])]) (.seq (.block 0 (.seq (.reg 0 [zL 0 42 10 2, zL 1 43 10 5, .o 2 (.call (some 44) model_field.id [(.tmp 42), (.tmp 43)]), zm 3 41 44, .g (.keep [2, 5, 7, 8, 9, 41])]) (.cond (.tmp 41) (.seq (.reg 0 [zk 0 4 48, .g (.keep [4])]) (.ret)) (.seq (.seq (.reg 0 [zf 0 46 5 0, zl 1 47 1 46, zf 2 48 2 2, zl 3 49 1 48, zn 4 50 49, .o 5 (.call (some 51) model_counts.id [(.tmp 47), (.tmp 50)]), zq 6 52 51, zm 7 45 52, .g (.keep [2, 5, 7, 8, 9, 45])]) (.cond (.tmp 45) (.skip) (.seq (.reg 0 [zf 0 53 5 1, zl 1 54 1 53, zf 2 55 2 7, zl 3 56 1 55, zn 4 57 56, .o 5 (.call (some 58) model_counts.id [(.tmp 54), (.tmp 57)]), zq 6 59 58, zm 7 45 59, .g (.keep [2, 5, 7, 8, 9, 45])]) (.cond (.tmp 45) (.skip) (.seq (.reg 0 [zf 0 60 5 2, zl 1 61 1 60, zf 2 62 2 8, zl 3 63 1 62, zn 4 64 63, .o 5 (.call (some 65) model_counts.id [(.tmp 61), (.tmp 64)]), zq 6 66 65, zm 7 45 66, .g (.keep [2, 5, 7, 8, 9, 45])]) (.cond (.tmp 45) (.skip) (.reg 0 [zL 0 67 10 2, zL 1 68 10 5, .o 2 (.call (some 69) model_wide.id [(.tmp 67), (.tmp 68)]), zm 3 45 69, .g (.keep [2, 5, 7, 8, 9, 45])]))))))) (.cond (.tmp 45) (.seq (.reg 0 [zk 0 4 47, .g (.keep [4])]) (.ret)) (.seq (.seq (.reg 0 [zm 0 71 7, zm 1 70 71, .g (.keep [2, 5, 8, 9, 70])]) (.cond (.tmp 70) (.skip) (.seq (.reg 0 [zf 0 72 5 4, zl 1 73 1 72, zm 2 74 73, ym 3 74 true 75 9, yf 4 74 true 76 2 5, yl 5 74 true 77 1 76, .gd 6 74 true (some 78) (.callb (some 78) (.tmp 75) [(.tmp 77)]), zr 7 79 74 78 false, zm 8 70 79, .g (.keep [2, 5, 8, 9, 70])]) (.cond (.tmp 70) (.skip) (.seq (.reg 0 [zf 0 80 5 5, zl 1 81 1 80, zm 2 82 81, ym 3 82 true 83 9, yf 4 82 true 84 2 6, yl 5 82 true 85 1 84, .gd 6 82 true (some 86) (.callb (some 86) (.tmp 83) [(.tmp 85)]), zr 7 87 82 86 false, zm 8 70 87, .g (.keep [2, 8, 9, 70])]) (.cond (.tmp 70) (.skip) (.reg 0 [zf 0 88 2 7, zl 1 89 1 88, zm 2 90 9, .o 3 (.callb (some 91) (.func slices_ContainsFunc_Lint_int.id) [(.tmp 89), (.tmp 90)]), zm 4 70 91, .g (.keep [2, 8, 70])]))))))) (.cond (.tmp 70) (.seq (.reg 0 [zk 0 4 44, .g (.keep [4])]) (.ret)) (.seq (.reg 0 [zm 0 93 8, zm 1 92 93, .g (.keep [2, 92])]) (.cond (.tmp 92) (.seq (.reg 0 [zk 0 4 45, .g (.keep [4])]) (.ret)) (.seq (.seq (.reg 0 [zf 0 95 2 3, zl 1 96 1 95, .o 2 (.call (some 97) model_within.id [(.tmp 96), (.const (.int .i64 1000000000))]), zq 3 98 97, zm 4 94 98, .g (.keep [2, 94])]) (.cond (.tmp 94) (.skip) (.seq (.reg 0 [zf 0 99 2 4, zl 1 100 1 99, .o 2 (.call (some 101) model_within.id [(.tmp 100), (.const (.int .i64 1000000000))]), zq 3 102 101, zm 4 94 102, .g (.keep [2, 94])]) (.cond (.tmp 94) (.skip) (.seq (.reg 0 [zf 0 103 2 8, zl 1 104 1 103, .o 2 (.call (some 105) model_great.id [(.tmp 104)]), zm 3 94 105, .g (.keep [2, 94])]) (.cond (.tmp 94) (.skip) (.reg 0 [zf 0 106 2 9, zl 1 107 1 106, .o 2 (.callb (some 108) (.func slices_ContainsFunc_LLint_Lint.id) [(.tmp 107), (.func model_great.id)]), zm 3 94 108, .g (.keep [94])]))))))) (.cond (.tmp 94) (.seq (.reg 0 [zk 0 4 46, .g (.keep [4])]) (.ret)) (.skip)))))))))))) (.seq (.reg 0 [zk 0 4 0, .g (.keep [4])]) (.ret)))))))
def model_con.rs : List Rs := [.sl 4]
theorem model_con.ok : isFn Try.prog model_con.id 109 model_con.ann model_con.ir model_con.rs := ⟨Try.f20, _, Try.func20, rfl, rfl, by kernel_rfl, by kernel_rfl⟩
-- hallmark/model.goal
def model_goal.ann : List (Nat × RA) := [(0, rk [1]), (1, rk [1, 3, 4]), (2, rk [1, 3, 4, 14]), (3, rk [2]), (4, rk [3, 4, 24]), (5, rk [2]), (6, rk [4, 32]), (7, rk [2]), (8, rk [34]), (9, rk [2]), (10, rk [2])]
def model_goal.ir : C := .seq (.reg 1 [.o 0 (.box (some 1) 0 4 (.tmp 0)), zk 1 2 0, .g (.keep [1])]) (.seq (.reg 0 [zf 0 6 1 3, zl 1 7 1 6, zf 2 8 1 0, zl 3 9 1 8, zn 4 10 9, .o 5 (.call (some 11) model_terms.id [(.tmp 7), (.tmp 10)]), zm 6 5 11, ze 7 12 5 0, ze 8 13 5 1, zm 9 3 12, zm 10 4 13, .g (.keep [1, 3, 4])]) (.seq (.block 0 (.seq (.reg 0 [zf 0 15 1 2, zl 1 16 1 15, zq 2 17 16, zm 3 18 17, yf 4 18 true 19 1 3, yl 5 18 true 20 1 19, yn 6 18 true 21 20, yd 7 18 true 22 .gtr 21 0, zr 8 23 18 22 false, zm 9 14 23, .g (.keep [1, 3, 4, 14])]) (.cond (.tmp 14) (.seq (.reg 0 [zk 0 2 48, .g (.keep [2])]) (.ret)) (.seq (.reg 0 [zf 0 25 1 2, zl 1 26 1 25, zf 2 27 1 3, zl 3 28 1 27, zn 4 29 28, .o 5 (.call (some 30) model_counts.id [(.tmp 26), (.tmp 29)]), zq 6 31 30, zm 7 24 31, .g (.keep [3, 4, 24])]) (.cond (.tmp 24) (.seq (.reg 0 [zk 0 2 47, .g (.keep [2])]) (.ret)) (.seq (.reg 0 [zm 0 33 3, zm 1 32 33, .g (.keep [4, 32])]) (.cond (.tmp 32) (.seq (.reg 0 [zk 0 2 44, .g (.keep [2])]) (.ret)) (.seq (.reg 0 [zm 0 35 4, zm 1 34 35, .g (.keep [34])]) (.cond (.tmp 34) (.seq (.reg 0 [zk 0 2 45, .g (.keep [2])]) (.ret)) (.skip)))))))))) (.seq (.reg 0 [zk 0 2 0, .g (.keep [2])]) (.ret))))
def model_goal.rs : List Rs := [.sl 2]
theorem model_goal.ok : isFn Try.prog model_goal.id 36 model_goal.ann model_goal.ir model_goal.rs := ⟨Try.f21, _, Try.func21, rfl, rfl, by kernel_rfl, by kernel_rfl⟩
-- (*hallmark/dom.Store).Size
def dom_Store_Size.ann : List (Nat × RA) := [(0, rk [0, 1]), (1, rp [0, 1, 8] [(2, [1000000])]), (2, rk [4]), (3, rp [4] [(7, [1000000])])]
def dom_Store_Size.ir : C := .seq (.reg 0 [zk 0 4 0, .g (.keep [0, 1])]) (.seq (.seq (.reg 0 [zm 0 5 0, zm 1 6 1, .o 2 (.callm (some 7) (.func dom_Store_is.id) [(.tmp 5), (.tmp 6)]), zq 3 8 7, .g (.keep [0, 1, 8])]) (.cond (.tmp 8) (.seq (.reg 0 [zk 0 4 0, .g (.keep [4])]) (.ret)) (.skip))) (.seq (.reg 0 [zm 0 9 0, zc 1 10 9, zf 2 11 10 0, zl 3 12 1 11, zm 4 13 1, zx 5 14 4 12 13, zf 6 15 14 2, .o 7 (.callm (some 16) (.func dom_set_size.id) [(.tmp 15)]), zm 8 4 16, .g (.keep [4])]) (.ret)))
def dom_Store_Size.rs : List Rs := [.sl 4]
theorem dom_Store_Size.ok : isFn Try.prog dom_Store_Size.id 17 dom_Store_Size.ann dom_Store_Size.ir dom_Store_Size.rs := ⟨Try.f22, _, Try.func22, rfl, rfl, by kernel_rfl, by kernel_rfl⟩
-- (*hallmark/dom.Store).is
def dom_Store_is.ann : List (Nat × RA) := [(0, rk [0, 1]), (1, rk [4])]
def dom_Store_is.ir : C := .seq (.reg 0 [zb 0 4 false, .g (.keep [0, 1])]) (.seq (.reg 0 [zm 0 5 1, zd 1 6 .geq 5 0, zm 2 7 6, ym 3 7 true 8 1, ym 4 7 true 9 0, yc 5 7 true 10 9, yf 6 7 true 11 10 0, yl 7 7 true 12 1 11, yn 8 7 true 13 12, ya 9 7 true 14 .lss 8 13, zr 10 15 7 14 false, zm 11 4 15, .g (.keep [4])]) (.ret))
def dom_Store_is.rs : List Rs := [.sl 4]
theorem dom_Store_is.ok : isFn Try.prog dom_Store_is.id 16 dom_Store_is.ann dom_Store_is.ir dom_Store_is.rs := ⟨Try.f23, _, Try.func23, rfl, rfl, by kernel_rfl, by kernel_rfl⟩
-- (*hallmark/dom.Store).Values
def dom_Store_Values.ann : List (Nat × RA) := [(0, rk [0, 1]), (1, rp [0, 1, 11] [(2, [1000000])]), (2, rk [4]), (3, rk [0, 1, 5]), (4, rk [5, 6]), (5, rk [5, 6, 20, 21]), (6, rk [5, 6, 20, 21, 22]), (7, rk [5, 6, 7, 20, 21]), (8, rp [5, 6, 7, 20, 21, 26] [(2, [1000000])]), (9, rp [5, 6, 20, 21] [(5, [1000004])]), (10, rk [5, 6, 20, 21]), (11, { gs := [(0, [.frz 5, .nilv 5 1])], keep := some [4] })]
def dom_Store_Values.b0 : C := .seq (.reg 0 [za 0 22 .lss 21 20, .g (.keep [5, 6, 20, 21, 22])]) (.seq (.cond (.tmp 22) (.skip) (.exit 0)) (.seq (.block 1 (.seq (.reg 0 [zm 0 23 21, zm 1 7 23, .g (.keep [5, 6, 7, 20, 21])]) (.seq (.reg 0 [zf 0 24 6 2, zm 1 25 7, .o 2 (.callm (some 26) (.func dom_set_has.id) [(.tmp 24), (.tmp 25)]), .g (.keep [5, 6, 7, 20, 21, 26])]) (.cond (.tmp 26) (.reg 2 [zm 0 27 5, zf 1 28 6 0, zl 2 29 1 28, zm 3 30 7, za 4 31 .add 29 30, .o 5 (.bsv (some 32) 1 1 [.a (.int .i64 0)] [(0, (.tmp 31))]), .o 6 (.app [] (some 33) 1 1 8 (.tmp 27) (.tmp 32)), zm 7 5 33, .g (.keep [5, 6, 20, 21])]) (.skip))))) (.reg 0 [zd 0 34 .add 21 1, zm 1 21 34, .g (.keep [5, 6, 20, 21])])))
def dom_Store_Values.ir : C := .seq (.reg 0 [.o 0 (.lt (some 4) (.mov (.const (.slice none 0 0)))), .g (.keep [0, 1])]) (.seq (.seq (.reg 0 [zm 0 8 0, zm 1 9 1, .o 2 (.callm (some 10) (.func dom_Store_is.id) [(.tmp 8), (.tmp 9)]), zq 3 11 10, .g (.keep [0, 1, 11])]) (.cond (.tmp 11) (.seq (.reg 0 [.o 0 (.lt (some 4) (.mov (.const (.slice none 0 0)))), .g (.keep [4])]) (.ret)) (.skip))) (.seq (.reg 0 [.o 0 (.lt (some 5) (.mov (.const (.slice none 0 0)))), .g (.keep [0, 1, 5])]) (.seq (.reg 1 [zm 0 12 0, zc 1 13 12, zf 2 14 13 0, zl 3 15 1 14, zm 4 16 1, zx 5 17 4 15 16, zL 6 18 4 17, .o 7 (.alloc (some 6) 0 4 [.a (.int .i64 0), .a (.int .i64 0), .a (.int .u32 0), .a (.int .u32 0)]), .o 8 (.store [] 4 (.tmp 6) (.tmp 18)), .g (.keep [5, 6])]) (.seq (.seq (.reg 0 [zf 0 19 6 1, zl 1 20 1 19, zk 2 21 0, .g (.keep [5, 6, 20, 21])]) (.block 0 (.loop dom_Store_Values.b0))) (.seq (.reg 0 [.g (.frz 5), .g (.nilv 5 1), zm 0 35 5, zm 1 4 35, .g (.keep [4])]) (.ret))))))
def dom_Store_Values.rs : List Rs := [.sl 4]
theorem dom_Store_Values.ok : isFn Try.prog dom_Store_Values.id 36 dom_Store_Values.ann dom_Store_Values.ir dom_Store_Values.rs := ⟨Try.f24, _, Try.func24, rfl, rfl, by kernel_rfl, by kernel_rfl⟩
-- hallmark/model.isName
def model_isName.ann : List (Nat × RA) := [(0, rk [0]), (1, rk [0, 7]), (2, rk [0, 7, 8, 9]), (3, rk [0, 3, 4, 7]), (4, rk [0, 3, 4, 5, 7]), (5, rk [0, 7, 43]), (6, rk [2]), (7, rk [2])]
def model_isName.b0 : C := .seq (.reg 0 [.o 0 (.nxt (some 8) (.tmp 7)), ze 1 9 8 0, .g (.keep [0, 7, 8, 9])]) (.seq (.cond (.tmp 9) (.skip) (.exit 0)) (.block 1 (.seq (.reg 0 [ze 0 10 8 1, ze 1 11 8 2, zm 2 3 10, zm 3 4 11, .g (.keep [0, 3, 4, 7])]) (.seq (.reg 0 [zm 0 12 4, .o 1 (.lt (some 13) (.bin .geq (.tmp 12) (.const (.int .i32 97)))), zm 2 14 13, ym 3 14 true 15 4, .gd 4 14 true (some 16) (.lt (some 16) (.bin .leq (.tmp 15) (.const (.int .i32 122)))), zr 5 17 14 16 false, zm 6 18 17, ym 7 18 false 19 4, .gd 8 18 false (some 20) (.lt (some 20) (.bin .geq (.tmp 19) (.const (.int .i32 65)))), ym 9 18 false 21 20, ym 10 21 true 22 4, .gd 11 21 true (some 23) (.lt (some 23) (.bin .leq (.tmp 22) (.const (.int .i32 90)))), yr 12 18 false 24 21 23 false, zp 13 25 18 true 24, zm 14 26 25, ym 15 26 false 27 4, .gd 16 26 false (some 28) (.lt (some 28) (.bin .eql (.tmp 27) (.const (.int .i32 95)))), zp 17 29 26 true 28, zm 18 5 29, .g (.keep [0, 3, 4, 5, 7])]) (.seq (.reg 0 [zm 0 30 5, zq 1 31 30, zm 2 32 31, ym 3 32 true 33 3, yd 4 32 true 34 .eql 33 0, ym 5 32 true 35 34, ym 6 35 false 36 4, .gd 7 35 false (some 37) (.lt (some 37) (.bin .lss (.tmp 36) (.const (.int .i32 48)))), yp 8 32 true 38 35 true 37, ym 9 32 true 39 38, ym 10 39 false 40 4, .gd 11 39 false (some 41) (.lt (some 41) (.bin .gtr (.tmp 40) (.const (.int .i32 57)))), yp 12 32 true 42 39 true 41, zr 13 43 32 42 false, .g (.keep [0, 7, 43])]) (.cond (.tmp 43) (.seq (.reg 0 [zb 0 2 false, .g (.keep [2])]) (.ret)) (.skip)))))))
def model_isName.ir : C := .seq (.reg 0 [zb 0 2 false, .g (.keep [0])]) (.seq (.seq (.reg 1 [zm 0 6 0, .o 1 (.rng (some 7) 0 (.tmp 6)), .g (.keep [0, 7])]) (.block 0 (.loop model_isName.b0))) (.seq (.reg 0 [zm 0 44 0, .o 1 (.lt (some 45) (.lenStr (.tmp 44))), zd 2 46 .geq 45 1, zm 3 47 46, ym 4 47 true 48 0, .gd 5 47 true (some 49) (.lt (some 49) (.lenStr (.tmp 48))), yd 6 47 true 50 .leq 49 16, zr 7 51 47 50 false, zm 8 2 51, .g (.keep [2])]) (.ret)))
def model_isName.rs : List Rs := [.sl 2]
theorem model_isName.ok : isFn Try.prog model_isName.id 52 model_isName.ann model_isName.ir model_isName.rs := ⟨Try.f25, _, Try.func25, rfl, rfl, by kernel_rfl, by kernel_rfl⟩
-- slices.ContainsFunc[[]hallmark/api.Var,hallmark/api.Var]
def slices_ContainsFunc_Lapi_Var_api_Var.ann : List (Nat × RA) := [(0, rk [0, 1]), (1, rk [4])]
def slices_ContainsFunc_Lapi_Var_api_Var.ir : C := .seq (.reg 0 [zb 0 4 false, .g (.keep [0, 1])]) (.seq (.reg 0 [zm 0 5 0, zm 1 6 1, .o 2 (.call (some 7) slices_IndexFunc_Lapi_Var_api_Var.id [(.tmp 5), (.tmp 6)]), zd 3 8 .geq 7 0, zm 4 4 8, .g (.keep [4])]) (.ret))
def slices_ContainsFunc_Lapi_Var_api_Var.rs : List Rs := [.sl 4]
theorem slices_ContainsFunc_Lapi_Var_api_Var.ok : isFn Try.prog slices_ContainsFunc_Lapi_Var_api_Var.id 9 slices_ContainsFunc_Lapi_Var_api_Var.ann slices_ContainsFunc_Lapi_Var_api_Var.ir slices_ContainsFunc_Lapi_Var_api_Var.rs := ⟨Try.f26, _, Try.func26, rfl, rfl, by kernel_rfl, by kernel_rfl⟩
-- hallmark/model.variable$1
def model_variable_1.ann : List (Nat × RA) := [(0, rk [1, 2]), (1, rk [3])]
def model_variable_1.ir : C := .seq (.reg 1 [.o 0 (.box (some 2) 0 3 (.tmp 0)), zb 1 3 false, .g (.keep [1, 2])]) (.seq (.reg 0 [zf 0 4 2 0, zl 1 5 1 4, zf 2 6 1 0, zl 3 7 1 6, za 4 8 .eql 5 7, zm 5 3 8, .g (.keep [3])]) (.ret))
def model_variable_1.rs : List Rs := [.sl 3]
theorem model_variable_1.ok : isFn Try.prog model_variable_1.id 9 model_variable_1.ann model_variable_1.ir model_variable_1.rs := ⟨Try.f27, _, Try.func27, rfl, rfl, by kernel_rfl, by kernel_rfl⟩
-- hallmark/model.within
def model_within.ann : List (Nat × RA) := [(0, rk [0, 1]), (1, rk [4])]
def model_within.ir : C := .seq (.reg 0 [zb 0 4 false, .g (.keep [0, 1])]) (.seq (.reg 0 [zm 0 5 0, zm 1 6 1, .o 2 (.lt (some 7) (.un .neg (.tmp 6))), za 3 8 .geq 5 7, zm 4 9 8, ym 5 9 true 10 0, ym 6 9 true 11 1, ya 7 9 true 12 .leq 10 11, zr 8 13 9 12 false, zm 9 4 13, .g (.keep [4])]) (.ret))
def model_within.rs : List Rs := [.sl 4]
theorem model_within.ok : isFn Try.prog model_within.id 14 model_within.ann model_within.ir model_within.rs := ⟨Try.f28, _, Try.func28, rfl, rfl, by kernel_rfl, by kernel_rfl⟩
-- hallmark/model.kinds
def model_kinds.ann : List (Nat × RA) := [(0, rk []), (1, rk [0])]
def model_kinds.ir : C := .seq (.reg 0 [.o 0 (.lt (some 0) (.mov (.const (.map none)))), .g (.keep [])]) (.seq (.reg 1 [.o 0 (.mkm (some 1) 0), .o 1 (.lt (some 2) (.build [.a (.bool false), .a (.bool false), .a (.bool false), .a (.bool false), .a (.bool false), .a (.bool false), .a (.bool false), .a (.bool false), .a (.bool false), .a (.nilFunc)] [(0, 1, (.const (.bool true))), (6, 1, (.const (.bool true))), (7, 1, (.const (.bool true))), (9, 1, (.func model_lin.id))])), .o 2 (.mup [] .i64 (.tmp 1) (.const (.int .i64 1)) (.tmp 2)), .o 3 (.lt (some 3) (.build [.a (.bool false), .a (.bool false), .a (.bool false), .a (.bool false), .a (.bool false), .a (.bool false), .a (.bool false), .a (.bool false), .a (.bool false), .a (.nilFunc)] [(4, 1, (.const (.bool true))), (5, 1, (.const (.bool true))), (6, 1, (.const (.bool true))), (9, 1, (.func model_kinds_1.id))])), .o 4 (.mup [] .i64 (.tmp 1) (.const (.int .i64 2)) (.tmp 3)), .o 5 (.lt (some 4) (.build [.a (.bool false), .a (.bool false), .a (.bool false), .a (.bool false), .a (.bool false), .a (.bool false), .a (.bool false), .a (.bool false), .a (.bool false), .a (.nilFunc)] [(1, 1, (.const (.bool true))), (9, 1, (.func model_allDiff.id))])), .o 6 (.mup [] .i64 (.tmp 1) (.const (.int .i64 3)) (.tmp 4)), .o 7 (.lt (some 5) (.build [.a (.bool false), .a (.bool false), .a (.bool false), .a (.bool false), .a (.bool false), .a (.bool false), .a (.bool false), .a (.bool false), .a (.bool false), .a (.nilFunc)] [(4, 1, (.const (.bool true))), (5, 1, (.const (.bool true))), (2, 1, (.const (.bool true))), (9, 1, (.func model_element.id))])), .o 8 (.mup [] .i64 (.tmp 1) (.const (.int .i64 4)) (.tmp 5)), .o 9 (.lt (some 6) (.build [.a (.bool false), .a (.bool false), .a (.bool false), .a (.bool false), .a (.bool false), .a (.bool false), .a (.bool false), .a (.bool false), .a (.bool false), .a (.nilFunc)] [(5, 1, (.const (.bool true))), (1, 1, (.const (.bool true))), (9, 1, (.func model_kinds_2.id))])), .o 10 (.mup [] .i64 (.tmp 1) (.const (.int .i64 5)) (.tmp 6)), .o 11 (.lt (some 7) (.build [.a (.bool false), .a (.bool false), .a (.bool false), .a (.bool false), .a (.bool false), .a (.bool false), .a (.bool false), .a (.bool false), .a (.bool false), .a (.nilFunc)] [(5, 1, (.const (.bool true))), (1, 1, (.const (.bool true))), (9, 1, (.func model_kinds_3.id))])), .o 12 (.mup [] .i64 (.tmp 1) (.const (.int .i64 6)) (.tmp 7)), .o 13 (.lt (some 8) (.build [.a (.bool false), .a (.bool false), .a (.bool false), .a (.bool false), .a (.bool false), .a (.bool false), .a (.bool false), .a (.bool false), .a (.bool false), .a (.nilFunc)] [(4, 1, (.const (.bool true))), (0, 1, (.const (.bool true))), (6, 1, (.const (.bool true))), (9, 1, (.func model_reif.id))])), .o 14 (.mup [] .i64 (.tmp 1) (.const (.int .i64 7)) (.tmp 8)), .o 15 (.lt (some 9) (.build [.a (.bool false), .a (.bool false), .a (.bool false), .a (.bool false), .a (.bool false), .a (.bool false), .a (.bool false), .a (.bool false), .a (.bool false), .a (.nilFunc)] [(1, 1, (.const (.bool true))), (3, 1, (.const (.bool true))), (9, 1, (.func model_table.id))])), .o 16 (.mup [] .i64 (.tmp 1) (.const (.int .i64 8)) (.tmp 9)), .o 17 (.lt (some 10) (.build [.a (.bool false), .a (.bool false), .a (.bool false), .a (.bool false), .a (.bool false), .a (.bool false), .a (.bool false), .a (.bool false), .a (.bool false), .a (.nilFunc)] [(1, 1, (.const (.bool true))), (6, 1, (.const (.bool true))), (7, 1, (.const (.bool true))), (8, 1, (.const (.bool true))), (9, 1, (.func model_count.id))])), .o 18 (.mup [] .i64 (.tmp 1) (.const (.int .i64 9)) (.tmp 10)), zm 19 11 1, zm 20 0 11, .g (.keep [0])]) (.ret))
def model_kinds.rs : List Rs := [.sl 0]
theorem model_kinds.ok : isFn Try.prog model_kinds.id 12 model_kinds.ann model_kinds.ir model_kinds.rs := ⟨Try.f29, _, Try.func29, rfl, rfl, by kernel_rfl, by kernel_rfl⟩
-- hallmark/model.terms
def model_terms.ann : List (Nat × RA) := [(0, rk [0, 1, 4, 5]), (1, rk [1, 4, 5, 8, 9, 10]), (2, rk [1, 4, 5, 8, 9, 10, 11]), (3, rk [1, 4, 5, 7, 8, 9, 10]), (4, rk [1, 4, 5, 7, 8, 9, 10]), (5, rk [1, 4, 5, 8, 9, 10]), (6, rk [1, 4, 5, 8, 9, 10]), (7, rk [4, 5])]
def model_terms.b0 : C := .seq (.reg 0 [za 0 11 .lss 10 9, .g (.keep [1, 4, 5, 8, 9, 10, 11])]) (.seq (.cond (.tmp 11) (.skip) (.exit 0)) (.seq (.block 1 (.seq (.reg 1 [zx 0 12 2 8 10, zL 1 13 2 12, .o 2 (.alloc (some 7) 0 2 [.a (.int .i64 0), .a (.int .i64 0)]), .o 3 (.store [] 2 (.tmp 7) (.tmp 13)), .g (.keep [1, 4, 5, 7, 8, 9, 10])]) (.seq (.reg 0 [zm 0 14 4, zm 1 15 14, yf 2 15 false 16 7 1, yl 3 15 false 17 1 16, yd 4 15 false 18 .lss 17 0, zp 5 19 15 true 18, zm 6 20 19, yf 7 20 false 21 7 1, yl 8 20 false 22 1 21, ym 9 20 false 23 1, ya 10 20 false 24 .geq 22 23, zp 11 25 20 true 24, zm 12 4 25, .g (.keep [1, 4, 5, 7, 8, 9, 10])]) (.reg 0 [zm 0 26 5, zm 1 27 26, yf 2 27 false 28 7 0, yl 3 27 false 29 1 28, yd 4 27 false 30 .eql 29 0, zp 5 31 27 true 30, zm 6 32 31, yf 7 32 false 33 7 0, yl 8 32 false 34 1 33, .gd 9 32 false (some 35) (.call (some 35) model_within.id [(.tmp 34), (.const (.int .i64 1000000))]), yq 10 32 false 36 35, zp 11 37 32 true 36, zm 12 5 37, .g (.keep [1, 4, 5, 8, 9, 10])])))) (.reg 0 [zd 0 38 .add 10 1, zm 1 10 38, .g (.keep [1, 4, 5, 8, 9, 10])])))
def model_terms.ir : C := .seq (.reg 0 [zb 0 4 false, zb 1 5 false, .g (.keep [0, 1, 4, 5])]) (.seq (.seq (.reg 0 [zm 0 8 0, zn 1 9 8, zk 2 10 0, .g (.keep [1, 4, 5, 8, 9, 10])]) (.block 0 (.loop model_terms.b0))) (.seq (.reg 0 [zm 0 39 4, zm 1 40 5, zm 2 4 39, zm 3 5 40, .g (.keep [4, 5])]) (.ret)))
def model_terms.rs : List Rs := [.sl 4, .sl 5]
theorem model_terms.ok : isFn Try.prog model_terms.id 41 model_terms.ann model_terms.ir model_terms.rs := ⟨Try.f30, _, Try.func30, rfl, rfl, by kernel_rfl, by kernel_rfl⟩
-- hallmark/model.con$1
def model_con_1.ann : List (Nat × RA) := [(0, rk [0, 1]), (1, rk [3])]
def model_con_1.ir : C := .seq (.reg 0 [zb 0 3 false, .g (.keep [0, 1])]) (.seq (.reg 0 [zm 0 4 0, zd 1 5 .lss 4 0, zm 2 6 5, ym 3 6 false 7 0, yl 4 6 false 8 1 1, ya 5 6 false 9 .geq 7 8, zp 6 10 6 true 9, zm 7 3 10, .g (.keep [3])]) (.ret))
def model_con_1.rs : List Rs := [.sl 3]
theorem model_con_1.ok : isFn Try.prog model_con_1.id 11 model_con_1.ann model_con_1.ir model_con_1.rs := ⟨Try.f31, _, Try.func31, rfl, rfl, by kernel_rfl, by kernel_rfl⟩
-- hallmark/model.field
def model_field.ann : List (Nat × RA) := [(0, rk [2, 3]), (1, rk [2, 3, 5]), (2, rk [2, 3, 5, 18]), (3, rk [2, 3, 5]), (4, rk [2, 3, 5, 21]), (5, rk [2, 3, 5]), (6, rk [2, 3, 5, 24]), (7, rk [2, 3, 5]), (8, rk [2, 3, 5, 27]), (9, rk [2, 3, 5]), (10, rk [2, 3, 5, 30]), (11, rk [2, 3, 5]), (12, rk [4])]
def model_field.ir : C := .seq (.reg 2 [.o 0 (.box (some 2) 0 10 (.tmp 0)), .o 1 (.box (some 3) 1 10 (.tmp 1)), zb 2 4 false, .g (.keep [2, 3])]) (.seq (.reg 1 [zf 0 6 2 1, zl 1 7 1 6, zf 2 8 2 3, zl 3 9 1 8, zf 4 10 2 4, zl 5 11 1 10, zf 6 12 2 5, zl 7 13 1 12, zf 8 14 2 6, zl 9 15 1 14, .o 10 (.lt (some 16) (.build [.a (.int .i64 0), .a (.int .i64 0), .a (.int .i64 0), .a (.int .i64 0), .a (.int .i64 0)] [(0, 1, (.tmp 7)), (1, 1, (.tmp 9)), (2, 1, (.tmp 11)), (3, 1, (.tmp 13)), (4, 1, (.tmp 15))])), .o 11 (.alloc (some 5) 0 5 [.a (.int .i64 0), .a (.int .i64 0), .a (.int .i64 0), .a (.int .i64 0), .a (.int .i64 0)]), .o 12 (.store [] 5 (.tmp 5) (.tmp 16)), .g (.keep [2, 3, 5])]) (.seq (.seq (.reg 0 [zf 0 17 3 7, zl 1 18 1 17, .g (.keep [2, 3, 5, 18])]) (.cond (.tmp 18) (.reg 0 [zf 0 19 5 0, .o 1 (.store [] 1 (.tmp 19) (.const (.int .i64 0))), .g (.keep [2, 3, 5])]) (.skip))) (.seq (.seq (.reg 0 [zf 0 20 3 8, zl 1 21 1 20, .g (.keep [2, 3, 5, 21])]) (.cond (.tmp 21) (.reg 0 [zf 0 22 5 2, .o 1 (.store [] 1 (.tmp 22) (.const (.int .i64 0))), .g (.keep [2, 3, 5])]) (.skip))) (.seq (.seq (.reg 0 [zf 0 23 3 6, zl 1 24 1 23, .g (.keep [2, 3, 5, 24])]) (.cond (.tmp 24) (.reg 0 [zf 0 25 5 1, .o 1 (.store [] 1 (.tmp 25) (.const (.int .i64 0))), .g (.keep [2, 3, 5])]) (.skip))) (.seq (.seq (.reg 0 [zf 0 26 3 4, zl 1 27 1 26, .g (.keep [2, 3, 5, 27])]) (.cond (.tmp 27) (.reg 0 [zf 0 28 5 3, .o 1 (.store [] 1 (.tmp 28) (.const (.int .i64 0))), .g (.keep [2, 3, 5])]) (.skip))) (.seq (.seq (.reg 0 [zf 0 29 3 5, zl 1 30 1 29, .g (.keep [2, 3, 5, 30])]) (.cond (.tmp 30) (.reg 0 [zf 0 31 5 4, .o 1 (.store [] 1 (.tmp 31) (.const (.int .i64 0))), .g (.keep [2, 3, 5])]) (.skip))) (.seq (.reg 0 [zL 0 32 5 5, .o 1 (.lt (some 33) (.build [.a (.int .i64 0), .a (.int .i64 0), .a (.int .i64 0), .a (.int .i64 0), .a (.int .i64 0)] [])), .o 2 (.lt (some 34) (.eqD true [(0, 0), (1, 0), (2, 0), (3, 0), (4, 0)] (.tmp 32) (.tmp 33))), zm 3 35 34, yf 4 35 false 36 3 0, yl 5 35 false 37 1 36, yq 6 35 false 38 37, ym 7 35 false 39 38, yf 8 39 true 40 2 2, yl 9 39 true 41 1 40, yn 10 39 true 42 41, yd 11 39 true 43 .gtr 42 0, yr 12 35 false 44 39 43 false, zp 13 45 35 true 44, zm 14 46 45, yf 15 46 false 47 3 1, yl 16 46 false 48 1 47, yq 17 46 false 49 48, ym 18 46 false 50 49, yf 19 50 true 51 2 7, yl 20 50 true 52 1 51, yn 21 50 true 53 52, yd 22 50 true 54 .gtr 53 0, yr 23 46 false 55 50 54 false, zp 24 56 46 true 55, zm 25 57 56, yf 26 57 false 58 3 2, yl 27 57 false 59 1 58, yq 28 57 false 60 59, ym 29 57 false 61 60, yf 30 61 true 62 2 8, yl 31 61 true 63 1 62, yn 32 61 true 64 63, yd 33 61 true 65 .gtr 64 0, yr 34 57 false 66 61 65 false, zp 35 67 57 true 66, zm 36 68 67, yf 37 68 false 69 3 3, yl 38 68 false 70 1 69, yq 39 68 false 71 70, ym 40 68 false 72 71, yf 41 72 true 73 2 9, yl 42 72 true 74 1 73, yn 43 72 true 75 74, yd 44 72 true 76 .gtr 75 0, yr 45 68 false 77 72 76 false, zp 46 78 68 true 77, zm 47 4 78, .g (.keep [4])]) (.ret))))))))
def model_field.rs : List Rs := [.sl 4]
theorem model_field.ok : isFn Try.prog model_field.id 79 model_field.ann model_field.ir model_field.rs := ⟨Try.f32, _, Try.func32, rfl, rfl, by kernel_rfl, by kernel_rfl⟩
-- hallmark/model.counts
def model_counts.ann : List (Nat × RA) := [(0, rk [0, 1]), (1, rk [4])]
def model_counts.ir : C := .seq (.reg 0 [zb 0 4 false, .g (.keep [0, 1])]) (.seq (.reg 0 [zm 0 5 0, zq 1 6 5, zm 2 7 6, ym 3 7 false 8 1, yd 4 7 false 9 .geq 8 1, ym 5 7 false 10 9, ym 6 10 true 11 1, yd 7 10 true 12 .leq 11 64, yr 8 7 false 13 10 12 false, zp 9 14 7 true 13, zm 10 4 14, .g (.keep [4])]) (.ret))
def model_counts.rs : List Rs := [.sl 4]
theorem model_counts.ok : isFn Try.prog model_counts.id 15 model_counts.ann model_counts.ir model_counts.rs := ⟨Try.f33, _, Try.func33, rfl, rfl, by kernel_rfl, by kernel_rfl⟩
-- hallmark/model.wide
def model_wide.ann : List (Nat × RA) := [(0, rk [2, 3]), (1, rp [4] [(18, [1000001])])]
def model_wide.ir : C := .seq (.reg 2 [.o 0 (.box (some 2) 0 10 (.tmp 0)), .o 1 (.box (some 3) 1 10 (.tmp 1)), zb 2 4 false, .g (.keep [2, 3])]) (.seq (.reg 0 [zf 0 5 3 3, zl 1 6 1 5, zm 2 7 6, yf 3 7 true 8 2 7, yl 4 7 true 9 1 8, yn 5 7 true 10 9, yd 6 7 true 11 .gtr 10 8, ym 7 7 true 12 11, yf 8 12 false 13 2 9, yl 9 12 false 14 1 13, yn 10 12 false 15 14, .gd 11 12 false (some 16) (.call (some 16) model_counts.id [(.const (.bool true)), (.tmp 15)]), yq 12 12 false 17 16, yp 13 7 true 18 12 true 17, ym 14 7 true 19 18, yf 15 19 false 20 2 9, yl 16 19 false 21 1 20, .gd 17 19 false (some 22) (.lt (some 22) (.mkfn (.func model_wide_1.id) [] [(.tmp 2)])), .gd 18 19 false (some 23) (.callb (some 23) (.func slices_ContainsFunc_LLint_Lint.id) [(.tmp 21), (.tmp 22)]), yp 19 7 true 24 19 true 23, zr 20 25 7 24 false, zm 21 4 25, .g (.keep [4])]) (.ret))
def model_wide.rs : List Rs := [.sl 4]
theorem model_wide.ok : isFn Try.prog model_wide.id 26 model_wide.ann model_wide.ir model_wide.rs := ⟨Try.f34, _, Try.func34, rfl, rfl, by kernel_rfl, by kernel_rfl⟩
-- slices.ContainsFunc[[]int,int]
def slices_ContainsFunc_Lint_int.ann : List (Nat × RA) := [(0, rk [0, 1]), (1, rk [4])]
def slices_ContainsFunc_Lint_int.ir : C := .seq (.reg 0 [zb 0 4 false, .g (.keep [0, 1])]) (.seq (.reg 0 [zm 0 5 0, zm 1 6 1, .o 2 (.call (some 7) slices_IndexFunc_Lint_int.id [(.tmp 5), (.tmp 6)]), zd 3 8 .geq 7 0, zm 4 4 8, .g (.keep [4])]) (.ret))
def slices_ContainsFunc_Lint_int.rs : List Rs := [.sl 4]
theorem slices_ContainsFunc_Lint_int.ok : isFn Try.prog slices_ContainsFunc_Lint_int.id 9 slices_ContainsFunc_Lint_int.ann slices_ContainsFunc_Lint_int.ir slices_ContainsFunc_Lint_int.rs := ⟨Try.f35, _, Try.func35, rfl, rfl, by kernel_rfl, by kernel_rfl⟩
-- hallmark/model.great
def model_great.ann : List (Nat × RA) := [(0, rk [0]), (1, rk [2])]
def model_great.ir : C := .seq (.reg 0 [zb 0 2 false, .g (.keep [0])]) (.seq (.reg 0 [zm 0 3 0, .o 1 (.call (some 4) slices_ContainsFunc_Lint_int.id [(.tmp 3), (.func model_great_1.id)]), zm 2 2 4, .g (.keep [2])]) (.ret))
def model_great.rs : List Rs := [.sl 2]
theorem model_great.ok : isFn Try.prog model_great.id 5 model_great.ann model_great.ir model_great.rs := ⟨Try.f36, _, Try.func36, rfl, rfl, by kernel_rfl, by kernel_rfl⟩
-- slices.ContainsFunc[[][]int,[]int]
def slices_ContainsFunc_LLint_Lint.ann : List (Nat × RA) := [(0, rk [0, 1]), (1, rk [4])]
def slices_ContainsFunc_LLint_Lint.ir : C := .seq (.reg 0 [zb 0 4 false, .g (.keep [0, 1])]) (.seq (.reg 0 [zm 0 5 0, zm 1 6 1, .o 2 (.call (some 7) slices_IndexFunc_LLint_Lint.id [(.tmp 5), (.tmp 6)]), zd 3 8 .geq 7 0, zm 4 4 8, .g (.keep [4])]) (.ret))
def slices_ContainsFunc_LLint_Lint.rs : List Rs := [.sl 4]
theorem slices_ContainsFunc_LLint_Lint.ok : isFn Try.prog slices_ContainsFunc_LLint_Lint.id 9 slices_ContainsFunc_LLint_Lint.ann slices_ContainsFunc_LLint_Lint.ir slices_ContainsFunc_LLint_Lint.rs := ⟨Try.f37, _, Try.func37, rfl, rfl, by kernel_rfl, by kernel_rfl⟩
-- (*hallmark/dom.set).size
def dom_set_size.ann : List (Nat × RA) := [(0, rk [0]), (1, rk [0, 3]), (2, rk [3, 6, 7]), (3, rk [3, 6, 7, 8]), (4, rk [3, 5, 6, 7]), (5, rk [3, 6, 7]), (6, rk [3, 6, 7]), (7, rk [2])]
def dom_set_size.b0 : C := .seq (.reg 0 [zd 0 8 .lss 7 2, .g (.keep [3, 6, 7, 8])]) (.seq (.cond (.tmp 8) (.skip) (.exit 0)) (.seq (.block 1 (.seq (.reg 0 [zc 0 9 6, .o 1 (.lt (some 10) (.ixA 2 1 (.tmp 9) (.tmp 7))), zl 2 11 1 10, zm 3 5 11, .g (.keep [3, 5, 6, 7])]) (.reg 0 [zm 0 12 3, zm 1 13 5, .o 2 (.call (some 14) math_bits_OnesCount32.id [(.tmp 13)]), za 3 15 .add 12 14, zm 4 3 15, .g (.keep [3, 6, 7])]))) (.reg 0 [zd 0 16 .add 7 1, zm 1 7 16, .g (.keep [3, 6, 7])])))
def dom_set_size.ir : C := .seq (.reg 0 [zk 0 2 0, .g (.keep [0])]) (.seq (.reg 0 [zk 0 3 0, .g (.keep [0, 3])]) (.seq (.seq (.reg 0 [zm 0 6 0, zk 1 7 0, .g (.keep [3, 6, 7])]) (.block 0 (.loop dom_set_size.b0))) (.seq (.reg 0 [zm 0 17 3, zm 1 2 17, .g (.keep [2])]) (.ret))))
def dom_set_size.rs : List Rs := [.sl 2]
theorem dom_set_size.ok : isFn Try.prog dom_set_size.id 18 dom_set_size.ann dom_set_size.ir dom_set_size.rs := ⟨Try.f38, _, Try.func38, rfl, rfl, by kernel_rfl, by kernel_rfl⟩
-- (*hallmark/dom.set).has
def dom_set_has.ann : List (Nat × RA) := [(0, rk [0, 1]), (1, rk [4])]
def dom_set_has.ir : C := .seq (.reg 0 [zb 0 4 false, .g (.keep [0, 1])]) (.seq (.reg 0 [zm 0 5 0, zm 1 6 1, zd 2 7 .quo 6 32, zc 3 8 5, .o 4 (.lt (some 9) (.ixA 2 1 (.tmp 8) (.tmp 7))), zl 5 10 1 9, zm 6 11 1, zd 7 12 .rem 11 32, za 8 13 .shr 10 12, .o 9 (.lt (some 14) (.bin .and (.tmp 13) (.const (.int .u32 1)))), .o 10 (.lt (some 15) (.bin .eql (.tmp 14) (.const (.int .u32 1)))), zm 11 4 15, .g (.keep [4])]) (.ret))
def dom_set_has.rs : List Rs := [.sl 4]
theorem dom_set_has.ok : isFn Try.prog dom_set_has.id 16 dom_set_has.ann dom_set_has.ir dom_set_has.rs := ⟨Try.f39, _, Try.func39, rfl, rfl, by kernel_rfl, by kernel_rfl⟩
-- slices.IndexFunc[[]hallmark/api.Var,hallmark/api.Var]
def slices_IndexFunc_Lapi_Var_api_Var.ann : List (Nat × RA) := [(0, rk [0, 1]), (1, rk [0, 1, 7, 8]), (2, rk [0, 1, 7, 8, 9]), (3, rk [0, 1, 5, 7, 8]), (4, rk [0, 1, 5, 7, 8, 16]), (5, rk [4]), (6, rk [0, 1, 7, 8]), (7, rk [4])]
def slices_IndexFunc_Lapi_Var_api_Var.b0 : C := .seq (.reg 0 [za 0 9 .lss 8 7, .g (.keep [0, 1, 7, 8, 9])]) (.seq (.cond (.tmp 9) (.skip) (.exit 0)) (.seq (.block 1 (.seq (.reg 0 [zm 0 10 8, zm 1 5 10, .g (.keep [0, 1, 5, 7, 8])]) (.seq (.reg 0 [zm 0 11 1, zm 1 12 0, zm 2 13 5, zx 3 14 3 12 13, zL 4 15 3 14, .o 5 (.callv (some 16) (.tmp 11) [(.tmp 15)]), .g (.keep [0, 1, 5, 7, 8, 16])]) (.cond (.tmp 16) (.seq (.reg 0 [zm 0 17 5, zm 1 4 17, .g (.keep [4])]) (.ret)) (.skip))))) (.reg 0 [zd 0 18 .add 8 1, zm 1 8 18, .g (.keep [0, 1, 7, 8])])))
def slices_IndexFunc_Lapi_Var_api_Var.ir : C := .seq (.reg 0 [zk 0 4 0, .g (.keep [0, 1])]) (.seq (.seq (.reg 0 [zm 0 6 0, zn 1 7 6, zk 2 8 0, .g (.keep [0, 1, 7, 8])]) (.block 0 (.loop slices_IndexFunc_Lapi_Var_api_Var.b0))) (.seq (.reg 0 [zk 0 4 (-1), .g (.keep [4])]) (.ret)))
def slices_IndexFunc_Lapi_Var_api_Var.rs : List Rs := [.sl 4]
theorem slices_IndexFunc_Lapi_Var_api_Var.ok : isFn Try.prog slices_IndexFunc_Lapi_Var_api_Var.id 19 slices_IndexFunc_Lapi_Var_api_Var.ann slices_IndexFunc_Lapi_Var_api_Var.ir slices_IndexFunc_Lapi_Var_api_Var.rs := ⟨Try.f40, _, Try.func40, rfl, rfl, by kernel_rfl, by kernel_rfl⟩
-- hallmark/model.lin
-- hallmark/model.kinds$1
-- hallmark/model.allDiff
-- hallmark/model.element
-- hallmark/model.kinds$2
-- slices.Max[[]int,int]
-- hallmark/model.each
-- hallmark/model.kinds$3
-- slices.Min[[]int,int]
-- hallmark/model.reif
-- hallmark/model.table
-- hallmark/model.count
-- hallmark/model.wide$1
def model_wide_1.ann : List (Nat × RA) := [(0, rk [0, 1]), (1, rk [3])]
def model_wide_1.ir : C := .seq (.reg 0 [zb 0 3 false, .g (.keep [0, 1])]) (.seq (.reg 0 [zm 0 4 0, zn 1 5 4, zf 2 6 1 7, zl 3 7 1 6, zn 4 8 7, za 5 9 .neq 5 8, zm 6 3 9, .g (.keep [3])]) (.ret))
def model_wide_1.rs : List Rs := [.sl 3]
theorem model_wide_1.ok : isFn Try.prog model_wide_1.id 10 model_wide_1.ann model_wide_1.ir model_wide_1.rs := ⟨Try.f53, _, Try.func53, rfl, rfl, by kernel_rfl, by kernel_rfl⟩
-- slices.IndexFunc[[]int,int]
def slices_IndexFunc_Lint_int.ann : List (Nat × RA) := [(0, rk [0, 1]), (1, rk [0, 1, 7, 8]), (2, rk [0, 1, 7, 8, 9]), (3, rk [0, 1, 5, 7, 8]), (4, rk [0, 1, 5, 7, 8, 16]), (5, rk [4]), (6, rk [0, 1, 7, 8]), (7, rk [4])]
def slices_IndexFunc_Lint_int.b0 : C := .seq (.reg 0 [za 0 9 .lss 8 7, .g (.keep [0, 1, 7, 8, 9])]) (.seq (.cond (.tmp 9) (.skip) (.exit 0)) (.seq (.block 1 (.seq (.reg 0 [zm 0 10 8, zm 1 5 10, .g (.keep [0, 1, 5, 7, 8])]) (.seq (.reg 0 [zm 0 11 1, zm 1 12 0, zm 2 13 5, zx 3 14 1 12 13, zl 4 15 1 14, .o 5 (.callv (some 16) (.tmp 11) [(.tmp 15)]), .g (.keep [0, 1, 5, 7, 8, 16])]) (.cond (.tmp 16) (.seq (.reg 0 [zm 0 17 5, zm 1 4 17, .g (.keep [4])]) (.ret)) (.skip))))) (.reg 0 [zd 0 18 .add 8 1, zm 1 8 18, .g (.keep [0, 1, 7, 8])])))
def slices_IndexFunc_Lint_int.ir : C := .seq (.reg 0 [zk 0 4 0, .g (.keep [0, 1])]) (.seq (.seq (.reg 0 [zm 0 6 0, zn 1 7 6, zk 2 8 0, .g (.keep [0, 1, 7, 8])]) (.block 0 (.loop slices_IndexFunc_Lint_int.b0))) (.seq (.reg 0 [zk 0 4 (-1), .g (.keep [4])]) (.ret)))
def slices_IndexFunc_Lint_int.rs : List Rs := [.sl 4]
theorem slices_IndexFunc_Lint_int.ok : isFn Try.prog slices_IndexFunc_Lint_int.id 19 slices_IndexFunc_Lint_int.ann slices_IndexFunc_Lint_int.ir slices_IndexFunc_Lint_int.rs := ⟨Try.f54, _, Try.func54, rfl, rfl, by kernel_rfl, by kernel_rfl⟩
-- hallmark/model.great$1
def model_great_1.ann : List (Nat × RA) := [(0, rk [0]), (1, rk [2])]
def model_great_1.ir : C := .seq (.reg 0 [zb 0 2 false, .g (.keep [0])]) (.seq (.reg 0 [zm 0 3 0, .o 1 (.call (some 4) model_within.id [(.tmp 3), (.const (.int .i64 1000000000))]), zq 2 5 4, zm 3 2 5, .g (.keep [2])]) (.ret))
def model_great_1.rs : List Rs := [.sl 2]
theorem model_great_1.ok : isFn Try.prog model_great_1.id 6 model_great_1.ann model_great_1.ir model_great_1.rs := ⟨Try.f55, _, Try.func55, rfl, rfl, by kernel_rfl, by kernel_rfl⟩
-- slices.IndexFunc[[][]int,[]int]
def slices_IndexFunc_LLint_Lint.ann : List (Nat × RA) := [(0, rk [0, 1]), (1, rk [0, 1, 7, 8]), (2, rk [0, 1, 7, 8, 9]), (3, rk [0, 1, 5, 7, 8]), (4, rk [0, 1, 5, 7, 8, 16]), (5, rk [4]), (6, rk [0, 1, 7, 8]), (7, rk [4])]
def slices_IndexFunc_LLint_Lint.b0 : C := .seq (.reg 0 [za 0 9 .lss 8 7, .g (.keep [0, 1, 7, 8, 9])]) (.seq (.cond (.tmp 9) (.skip) (.exit 0)) (.seq (.block 1 (.seq (.reg 0 [zm 0 10 8, zm 1 5 10, .g (.keep [0, 1, 5, 7, 8])]) (.seq (.reg 0 [zm 0 11 1, zm 1 12 0, zm 2 13 5, zx 3 14 1 12 13, zl 4 15 1 14, .o 5 (.callv (some 16) (.tmp 11) [(.tmp 15)]), .g (.keep [0, 1, 5, 7, 8, 16])]) (.cond (.tmp 16) (.seq (.reg 0 [zm 0 17 5, zm 1 4 17, .g (.keep [4])]) (.ret)) (.skip))))) (.reg 0 [zd 0 18 .add 8 1, zm 1 8 18, .g (.keep [0, 1, 7, 8])])))
def slices_IndexFunc_LLint_Lint.ir : C := .seq (.reg 0 [zk 0 4 0, .g (.keep [0, 1])]) (.seq (.seq (.reg 0 [zm 0 6 0, zn 1 7 6, zk 2 8 0, .g (.keep [0, 1, 7, 8])]) (.block 0 (.loop slices_IndexFunc_LLint_Lint.b0))) (.seq (.reg 0 [zk 0 4 (-1), .g (.keep [4])]) (.ret)))
def slices_IndexFunc_LLint_Lint.rs : List Rs := [.sl 4]
theorem slices_IndexFunc_LLint_Lint.ok : isFn Try.prog slices_IndexFunc_LLint_Lint.id 19 slices_IndexFunc_LLint_Lint.ann slices_IndexFunc_LLint_Lint.ir slices_IndexFunc_LLint_Lint.rs := ⟨Try.f56, _, Try.func56, rfl, rfl, by kernel_rfl, by kernel_rfl⟩
-- math/bits.OnesCount32
def math_bits_OnesCount32.ann : List (Nat × RA) := [(0, rk [0]), (1, ro [2] [0, 1, 2, 3, 4, 5, 6, 7, 8, 9, 10, 11, 12, 13, 14, 15, 16, 17, 18])]
def math_bits_OnesCount32.ir : C := .seq (.reg 0 [zk 0 2 0, .g (.keep [0])]) (.seq (.reg 0 [zm 0 3 0, .o 1 (.lt (some 4) (.bin .shr (.tmp 3) (.const (.int .u64 24)))), .o 2 (.lt (some 5) (.ixStr (.const (.string { data := #[0, 1, 1, 2, 1, 2, 2, 3, 1, 2, 2, 3, 2, 3, 3, 4, 1, 2, 2, 3, 2, 3, 3, 4, 2, 3, 3, 4, 3, 4, 4, 5, 1, 2, 2, 3, 2, 3, 3, 4, 2, 3, 3, 4, 3, 4, 4, 5, 2, 3, 3, 4, 3, 4, 4, 5, 3, 4, 4, 5, 4, 5, 5, 6, 1, 2, 2, 3, 2, 3, 3, 4, 2, 3, 3, 4, 3, 4, 4, 5, 2, 3, 3, 4, 3, 4, 4, 5, 3, 4, 4, 5, 4, 5, 5, 6, 2, 3, 3, 4, 3, 4, 4, 5, 3, 4, 4, 5, 4, 5, 5, 6, 3, 4, 4, 5, 4, 5, 5, 6, 4, 5, 5, 6, 5, 6, 6, 7, 1, 2, 2, 3, 2, 3, 3, 4, 2, 3, 3, 4, 3, 4, 4, 5, 2, 3, 3, 4, 3, 4, 4, 5, 3, 4, 4, 5, 4, 5, 5, 6, 2, 3, 3, 4, 3, 4, 4, 5, 3, 4, 4, 5, 4, 5, 5, 6, 3, 4, 4, 5, 4, 5, 5, 6, 4, 5, 5, 6, 5, 6, 6, 7, 2, 3, 3, 4, 3, 4, 4, 5, 3, 4, 4, 5, 4, 5, 5, 6, 3, 4, 4, 5, 4, 5, 5, 6, 4, 5, 5, 6, 5, 6, 6, 7, 3, 4, 4, 5, 4, 5, 5, 6, 4, 5, 5, 6, 5, 6, 6, 7, 4, 5, 5, 6, 5, 6, 6, 7, 5, 6, 6, 7, 6, 7, 7, 8] })) (.tmp 4))), zm 3 6 0, .o 4 (.lt (some 7) (.bin .shr (.tmp 6) (.const (.int .u64 16)))), .o 5 (.lt (some 8) (.bin .and (.tmp 7) (.const (.int .u32 255)))), .o 6 (.lt (some 9) (.ixStr (.const (.string { data := #[0, 1, 1, 2, 1, 2, 2, 3, 1, 2, 2, 3, 2, 3, 3, 4, 1, 2, 2, 3, 2, 3, 3, 4, 2, 3, 3, 4, 3, 4, 4, 5, 1, 2, 2, 3, 2, 3, 3, 4, 2, 3, 3, 4, 3, 4, 4, 5, 2, 3, 3, 4, 3, 4, 4, 5, 3, 4, 4, 5, 4, 5, 5, 6, 1, 2, 2, 3, 2, 3, 3, 4, 2, 3, 3, 4, 3, 4, 4, 5, 2, 3, 3, 4, 3, 4, 4, 5, 3, 4, 4, 5, 4, 5, 5, 6, 2, 3, 3, 4, 3, 4, 4, 5, 3, 4, 4, 5, 4, 5, 5, 6, 3, 4, 4, 5, 4, 5, 5, 6, 4, 5, 5, 6, 5, 6, 6, 7, 1, 2, 2, 3, 2, 3, 3, 4, 2, 3, 3, 4, 3, 4, 4, 5, 2, 3, 3, 4, 3, 4, 4, 5, 3, 4, 4, 5, 4, 5, 5, 6, 2, 3, 3, 4, 3, 4, 4, 5, 3, 4, 4, 5, 4, 5, 5, 6, 3, 4, 4, 5, 4, 5, 5, 6, 4, 5, 5, 6, 5, 6, 6, 7, 2, 3, 3, 4, 3, 4, 4, 5, 3, 4, 4, 5, 4, 5, 5, 6, 3, 4, 4, 5, 4, 5, 5, 6, 4, 5, 5, 6, 5, 6, 6, 7, 3, 4, 4, 5, 4, 5, 5, 6, 4, 5, 5, 6, 5, 6, 6, 7, 4, 5, 5, 6, 5, 6, 6, 7, 5, 6, 6, 7, 6, 7, 7, 8] })) (.tmp 8))), za 7 10 .add 5 9, zm 8 11 0, .o 9 (.lt (some 12) (.bin .shr (.tmp 11) (.const (.int .u64 8)))), .o 10 (.lt (some 13) (.bin .and (.tmp 12) (.const (.int .u32 255)))), .o 11 (.lt (some 14) (.ixStr (.const (.string { data := #[0, 1, 1, 2, 1, 2, 2, 3, 1, 2, 2, 3, 2, 3, 3, 4, 1, 2, 2, 3, 2, 3, 3, 4, 2, 3, 3, 4, 3, 4, 4, 5, 1, 2, 2, 3, 2, 3, 3, 4, 2, 3, 3, 4, 3, 4, 4, 5, 2, 3, 3, 4, 3, 4, 4, 5, 3, 4, 4, 5, 4, 5, 5, 6, 1, 2, 2, 3, 2, 3, 3, 4, 2, 3, 3, 4, 3, 4, 4, 5, 2, 3, 3, 4, 3, 4, 4, 5, 3, 4, 4, 5, 4, 5, 5, 6, 2, 3, 3, 4, 3, 4, 4, 5, 3, 4, 4, 5, 4, 5, 5, 6, 3, 4, 4, 5, 4, 5, 5, 6, 4, 5, 5, 6, 5, 6, 6, 7, 1, 2, 2, 3, 2, 3, 3, 4, 2, 3, 3, 4, 3, 4, 4, 5, 2, 3, 3, 4, 3, 4, 4, 5, 3, 4, 4, 5, 4, 5, 5, 6, 2, 3, 3, 4, 3, 4, 4, 5, 3, 4, 4, 5, 4, 5, 5, 6, 3, 4, 4, 5, 4, 5, 5, 6, 4, 5, 5, 6, 5, 6, 6, 7, 2, 3, 3, 4, 3, 4, 4, 5, 3, 4, 4, 5, 4, 5, 5, 6, 3, 4, 4, 5, 4, 5, 5, 6, 4, 5, 5, 6, 5, 6, 6, 7, 3, 4, 4, 5, 4, 5, 5, 6, 4, 5, 5, 6, 5, 6, 6, 7, 4, 5, 5, 6, 5, 6, 6, 7, 5, 6, 6, 7, 6, 7, 7, 8] })) (.tmp 13))), za 12 15 .add 10 14, zm 13 16 0, .o 14 (.lt (some 17) (.bin .and (.tmp 16) (.const (.int .u32 255)))), .o 15 (.lt (some 18) (.ixStr (.const (.string { data := #[0, 1, 1, 2, 1, 2, 2, 3, 1, 2, 2, 3, 2, 3, 3, 4, 1, 2, 2, 3, 2, 3, 3, 4, 2, 3, 3, 4, 3, 4, 4, 5, 1, 2, 2, 3, 2, 3, 3, 4, 2, 3, 3, 4, 3, 4, 4, 5, 2, 3, 3, 4, 3, 4, 4, 5, 3, 4, 4, 5, 4, 5, 5, 6, 1, 2, 2, 3, 2, 3, 3, 4, 2, 3, 3, 4, 3, 4, 4, 5, 2, 3, 3, 4, 3, 4, 4, 5, 3, 4, 4, 5, 4, 5, 5, 6, 2, 3, 3, 4, 3, 4, 4, 5, 3, 4, 4, 5, 4, 5, 5, 6, 3, 4, 4, 5, 4, 5, 5, 6, 4, 5, 5, 6, 5, 6, 6, 7, 1, 2, 2, 3, 2, 3, 3, 4, 2, 3, 3, 4, 3, 4, 4, 5, 2, 3, 3, 4, 3, 4, 4, 5, 3, 4, 4, 5, 4, 5, 5, 6, 2, 3, 3, 4, 3, 4, 4, 5, 3, 4, 4, 5, 4, 5, 5, 6, 3, 4, 4, 5, 4, 5, 5, 6, 4, 5, 5, 6, 5, 6, 6, 7, 2, 3, 3, 4, 3, 4, 4, 5, 3, 4, 4, 5, 4, 5, 5, 6, 3, 4, 4, 5, 4, 5, 5, 6, 4, 5, 5, 6, 5, 6, 6, 7, 3, 4, 4, 5, 4, 5, 5, 6, 4, 5, 5, 6, 5, 6, 6, 7, 4, 5, 5, 6, 5, 6, 6, 7, 5, 6, 6, 7, 6, 7, 7, 8] })) (.tmp 17))), za 16 19 .add 15 18, .o 17 (.lt (some 20) (.conv .i64 (.tmp 19))), zm 18 2 20, .g (.keep [2])]) (.ret))
def math_bits_OnesCount32.rs : List Rs := [.sl 2]
theorem math_bits_OnesCount32.ok : isFn Try.prog math_bits_OnesCount32.id 21 math_bits_OnesCount32.ann math_bits_OnesCount32.ir math_bits_OnesCount32.rs := ⟨Try.f57, _, Try.func57, rfl, rfl, by kernel_rfl, by kernel_rfl⟩
-- hallmark/model.is
-- hallmark/model.sum
-- slices.Compact[[]int,int]
-- hallmark/model.table$1
-- slices.Equal[[]int,int]
end Go.Abs.G

/- Objects that own what their cells' slices lie in: taken apart, put together. -/
namespace Go.Abs
set_option linter.unusedVariables false

mutual
def Ce.ids : Ce → List Nat
  | .v x => x.ids
  | .n _ rows => Ce.idsR rows
def Ce.idsL : List Ce → List Nat
  | [] => []
  | x :: l => x.ids ++ Ce.idsL l
def Ce.idsR : List (List Ce) → List Nat
  | [] => []
  | r :: l => Ce.idsL r ++ Ce.idsR l
end

theorem Ce.idsL_mem {l : List Ce} {j k : Nat} {x : Ce} (h : l[j]? = some x) (hk : k ∈ x.ids) : k ∈ Ce.idsL l := by
  induction l generalizing j with
  | nil => simp at h
  | cons y l ih =>
    simp only [Ce.idsL, List.mem_append]
    cases j with
    | zero => simp at h; subst h; exact .inl hk
    | succ j => exact .inr (ih (by simpa using h))
theorem Ce.idsR_mem {l : List (List Ce)} {i k : Nat} {r : List Ce} (h : l[i]? = some r) (hk : k ∈ Ce.idsL r) : k ∈ Ce.idsR l := by
  induction l generalizing i with
  | nil => simp at h
  | cons y l ih =>
    simp only [Ce.idsR, List.mem_append]
    cases i with
    | zero => simp at h; subst h; exact .inl hk
    | succ i => exact .inr (ih (by simpa using h))

theorem only_sub {c : Cx} {refs refs' : List Nat} {v : Value} {x : V} (h : RV (c.only refs) v x) (hs : ∀ k ∈ x.ids, k ∈ refs') : RV (c.only refs') v x :=
  (h.onlyOf refs' hs).mono ⟨Nat.le_refl _, fun _ _ hn => ⟨rfl, hn⟩, fun k hl => ⟨hl.1, hl.2.2⟩, fun _ _ _ e => .inl e⟩

theorem TR.refs {c : Cx} {refs refs' : List Nat} {S : Nat → Prop} {u : Value} {x : Ce} (h : TR c refs S u x) (hs : ∀ k ∈ x.ids, k ∈ refs') : TR c refs' S u x := by
  induction h with
  | v h1 h => exact .v h1 (only_sub h fun k hk => hs k (by simpa only [Ce.ids] using hk))
  | nil => exact .nil
  | n had cs E g T hb hcap hsz hlen hg hr hT hS hd hd2 ih =>
    exact .n had cs E g T hb hcap hsz hlen hg (fun i row hi j x hj => ih i row hi j x hj fun k hk => hs k (by simp only [Ce.ids]; exact Ce.idsR_mem hi (Ce.idsL_mem hj hk))) hT hS hd hd2

theorem TR.inv {c : Cx} {refs : List Nat} {S : Nat → Prop} {ad : Addr} {n cap es : Nat} {rows : List (List Ce)} (h : TR c refs S (.slice (some ad) n cap) (.n es rows)) (hne : rows ≠ [] ∨ ∃ b, S b) :
    ∃ (b o : Nat) (cs : Array Value) (E : TypeId) (g : Nat → Nat → Value) (T : Nat → Nat → Nat → Prop), (0 < cap → ad = ⟨b, o, none⟩) ∧
      c.hp[b]? = some (.cells cs E (0, 0)) ∧ rows.length ≤ cap ∧ o + cap * es ≤ cs.size ∧ (∀ (i : Nat) (row : List Ce), rows[i]? = some row → row.length = es) ∧
      (∀ (i : Nat) (row : List Ce), rows[i]? = some row → ∀ (j : Nat) (x : Ce), row[j]? = some x → cs[o + i * es + j]? = some (g i j)) ∧
      (∀ (i : Nat) (row : List Ce), rows[i]? = some row → ∀ (j : Nat) (x : Ce), row[j]? = some x → TR c refs (T i j) (g i j) x) ∧
      (∀ i j k, T i j k → ∃ row x, rows[i]? = some row ∧ row[j]? = some x) ∧
      (∀ k, S k ↔ k = b ∨ ∃ i j, T i j k) ∧ (∀ i j, ¬ T i j b) ∧ (∀ i j i' j' k, T i j k → T i' j' k → i = i' ∧ j = j') := by
  cases h with
  | nil => exact (hne.elim (fun e => e rfl) fun ⟨_, e⟩ => e).elim
  | n had cs E g T hb hcap hsz hlen hg hr hT hS hd hd2 => exact ⟨_, _, cs, E, g, T, had, hb, hcap, hsz, hlen, hg, hr, hT, hS, hd, hd2⟩

theorem TR.vsub {c : Cx} {refs : List Nat} {S : Nat → Prop} {u : Value} {x : V} (h : TR c refs S u (.v x)) : ∀ b, ¬ S b := by
  cases h with
  | v h1 h => exact fun _ e => e

theorem TR.val {c : Cx} {refs : List Nat} {S : Nat → Prop} {u : Value} {x : V} (h : TR c refs S u (.v x)) : RV (c.only refs) u x := by
  cases h with
  | v h1 h => exact h

/-- From one heap to another, in the same memory. -/
def Step (xs : List V) (H H' : Heap) : Prop :=
  ∀ (w : World) (β : Nat → Hd) (F : Nat → Prop) (vs : Array Value), HOK w.heap H β F → RVs (cx w.heap H β F) vs xs → ∃ β', Adv F w H β w H' β'

theorem Step.refl (xs : List V) (H : Heap) : Step xs H H := fun w β F vs hk hr => ⟨β, hk, .refl _, .refl _ _⟩

theorem RVs.mono {c c' : Cx} {vs : Array Value} {xs : List V} (h : RVs c vs xs) (hc : c.le c') : RVs c' vs xs := ⟨h.1, fun i v x hv hx => (h.2 i v x hv hx).mono hc⟩

theorem Step.trans {xs : List V} {H H' H'' : Heap} (h : Step xs H H') (k : Step xs H' H'') : Step xs H H'' := fun w β F vs hk hr => by
  obtain ⟨β', a⟩ := h w β F vs hk hr
  obtain ⟨β'', b⟩ := k w β' F vs a.hok (hr.mono a.le)
  exact ⟨β'', a.trans b⟩

theorem DC.pre {P : Program} {f : FuncId} {xs : List V} {H H1 : Heap} {Q : V → Heap → Prop} (hs : Step xs H H1) (h : DC P f xs H1 Q) : DC P f xs H Q := fun w β F vs hk hr => by
  obtain ⟨β', a⟩ := hs w β F vs hk hr
  refine (h w β' F vs a.hok (hr.mono a.le)).mono fun e w' ⟨r, x, H', β2, h1, h2, h3, h4⟩ => ⟨r, x, H', β2, h1, a.trans h2, h3, h4⟩

theorem RVs.cons' {c : Cx} {v : Value} {x : V} {vs : Array Value} {xs : List V} (h : RV c v x) (hs : RVs c vs xs) : RVs c (#[v] ++ vs) (x :: xs) := by
  refine ⟨by simp [hs.1]; omega, fun i u y h1 h2 => ?_⟩
  cases i with
  | zero => simp [Array.getElem?_append] at h1 h2; subst h1; subst h2; exact h
  | succ i =>
    rw [Array.getElem?_append, if_neg (by simp)] at h1
    exact hs.2 i u y (by simpa using h1) (by simpa using h2)

theorem DC.post {P : Program} {f : FuncId} {xs : List V} {H : Heap} {Q Q' : V → Heap → Prop} (h : DC P f xs H Q) (hq : ∀ x H1, Q x H1 → ∃ H2, Step (x :: xs) H1 H2 ∧ Q' x H2) : DC P f xs H Q' := fun w β F vs hk hr =>
  (h w β F vs hk hr).mono fun e w' ⟨r, x, H', β2, h1, h2, h3, h4⟩ => by
    obtain ⟨H2, hs, hQ⟩ := hq x H' h4
    obtain ⟨β3, a⟩ := hs w' β2 F _ h2.hok (RVs.cons' h3 (hr.mono h2.le))
    exact ⟨r, x, H2, β3, h1, h2.trans a, h3.mono a.le, hQ⟩

abbrev Hd.ws (h : Hd) (S : Nat → Prop) : Hd := ⟨h.b, h.o, h.cap, h.es, h.lo, h.nil, h.tot, S⟩

/-- Rows without slices of their own. -/
def flatC (rows : List (List V)) : List (List Ce) := rows.map fun r => r.map Ce.v

section
variable {w : World} {β : Nat → Hd} {F : Nat → Prop} {H : Heap}

/-- An object told otherwise, at the same place. -/
theorem turn_at {id : Nat} {o o' : O} {S : Nat → Prop} (hk : HOK w.heap H β F) (hid : H[id]? = some o) (hlive : o' ≠ .res) (hown : ∀ b, ownsB (H.set id o') (upd β id ((β id).ws S)) id b → ownsB H β id b)
    (hhd : ∀ g', hdOf (H.set id o') (upd β id ((β id).ws S)) id = some g' → hdOf H β id = some g')
    (hro : (cx w.heap H β F).le (cx w.heap (H.set id o') (upd β id ((β id).ws S)) F) → RO (cx w.heap (H.set id o') (upd β id ((β id).ws S)) F) ((β id).ws S) o') : Adv F w H β w (H.set id o') (upd β id ((β id).ws S)) := by
  obtain ⟨h1, h2, h3⟩ := hk.turn (hp' := w.heap) (o' := o') (h' := ((β id).ws S)) hid (Nat.le_refl _) (fun _ _ _ => rfl)
    (fun b hb => .inl (hown b hb)) hlive (fun g' hg _ => .inl (hhd g' hg)) hro
  exact ⟨h1, h2, .refl _ _⟩

theorem flatC_get {rows : List (List V)} {i : Nat} {row : List Ce} (h : (flatC rows)[i]? = some row) : ∃ r, rows[i]? = some r ∧ row = r.map Ce.v := by
  simp only [flatC, List.getElem?_map, Option.map_eq_some_iff] at h
  obtain ⟨r, h1, h2⟩ := h
  exact ⟨r, h1, h2.symm⟩
theorem flatC_length (rows : List (List V)) : (flatC rows).length = rows.length := by simp [flatC]

theorem adv_toTree {id : Nat} {refs : List Nat} {rows : List (List V)} (hk : HOK w.heap H β F) (hid : H[id]? = some (.mem false refs rows)) (hlo : (β id).lo = 0) : ∃ β', Adv F w H β w (H.set id (.tree refs (flatC rows))) β' := by
  refine ⟨_, turn_at (S := noSub) hk hid (by simp) (fun b hb => ?_) (fun g' hg => ?_) fun hle => ?_⟩
  · unfold ownsB at hb ⊢
    rw [get_set hid, upd_same] at hb
    rw [hid]
    obtain ⟨h1, h2 | h2⟩ := hb
    · exact ⟨h1, h2⟩
    · exact h2.elim
  · unfold hdOf at hg ⊢
    rw [get_set hid, upd_same] at hg
    rw [hid]
    simp only [flatC_length] at hg ⊢
    exact hg
  · rcases hk.ro id _ hid with hr | ⟨q1, q2, q3, q4, q5, cs, E, fr, q6, q7, q8, q9⟩
    · exact .inl ⟨hr.1, by rw [hr.2.1]; rfl, hr.2.2⟩
    · obtain rfl := q7 rfl
      refine .inr ⟨q1, hlo, fun h => h, ?_, fun cs' E' fr' e => ?_⟩
      rotate_left
      · have e2 : w.heap[(β id).b]? = some (.cells cs' E' fr') := e
        have q6' : w.heap[(β id).b]? = some (.cells cs E (0, 0)) := q6
        rw [q6'] at e2
        cases e2
        exact q8
      have key : ∀ (i : Nat) (row : List Ce), (flatC rows)[i]? = some row → ∀ (j : Nat) (x : Ce), row[j]? = some x → ∃ y v, x = .v y ∧ cs[(β id).o + i * (β id).es + j]? = some v ∧ v.oneCell' = true ∧ RV ((cx w.heap H β F).only refs) v y := by
        intro i row hi j x hj
        obtain ⟨r, hr, rfl⟩ := flatC_get hi
        rw [List.getElem?_map, Option.map_eq_some_iff] at hj
        obtain ⟨y, hj, rfl⟩ := hj
        obtain ⟨v, e1, e2, e3⟩ := q9 i r hr (by omega) j y hj
        rw [hlo, Nat.sub_zero] at e1
        exact ⟨y, v, rfl, e1, e2, e3⟩
      have := TR.n (c := cx w.heap (H.set id (.tree refs (flatC rows))) (upd β id ((β id).ws noSub)) F) (refs := refs) (S := fun b => (β id).b = b ∨ noSub b) (ad := ⟨(β id).b, (β id).o, none⟩) (b := (β id).b) (o := (β id).o) (cap := (β id).cap) (es := (β id).es) (rows := flatC rows)
        (fun _ => rfl) cs E (fun i j => (cs[(β id).o + i * (β id).es + j]?).getD undef) (fun _ _ => noSub) q6 (by rw [flatC_length]; omega) q8 (fun i row hi => by
          obtain ⟨r, hr, rfl⟩ := flatC_get hi
          rw [List.length_map]; exact q4 i r hr) (fun i row hi j x hj => by
          obtain ⟨y, v, _, e1, _⟩ := key i row hi j x hj
          rw [e1]; rfl) (fun i row hi j x hj => by
          obtain ⟨y, v, rfl, e1, e2, e3⟩ := key i row hi j x hj
          rw [e1]; exact .v e2 (e3.mono (hle.only _))) (fun i j k h => h.elim) (fun k => ⟨fun h => h.elim (fun e => .inl e.symm) fun e => e.elim, fun h => h.elim (fun e => .inl e.symm) fun ⟨_, _, e⟩ => e.elim⟩) (fun i j h => h) fun i j i' j' k h => h.elim
      exact this

theorem adv_toMem {id : Nat} {refs : List Nat} {rows : List (List V)} (hk : HOK w.heap H β F) (hid : H[id]? = some (.tree refs (flatC rows))) : ∃ β', Adv F w H β w (H.set id (.mem false refs rows)) β' := by
  refine ⟨_, turn_at (S := noSub) hk hid (by simp) (fun b hb => ?_) (fun g' hg => ?_) fun hle => ?_⟩
  · unfold ownsB at hb ⊢
    rw [get_set hid, upd_same] at hb
    rw [hid]
    exact ⟨hb.1, .inl hb.2⟩
  · unfold hdOf at hg ⊢
    rw [get_set hid, upd_same] at hg
    rw [hid]
    simp only [flatC_length]
    exact hg
  · rcases hk.ro id _ hid with hr | ⟨q1, q2, q3, q4, q5⟩
    · exact .inl ⟨hr.1, by have := hr.2.1; simpa [flatC] using this, hr.2.2⟩
    · obtain ⟨b, o, cs, E, g, T, had, hb, hcap, hsz, hlen, hg, hr, hT, hS', hd, hd2⟩ := q4.inv (.inr ⟨_, .inl rfl⟩)
      have hbb : (β id).b = b := by
        rcases (hS' (β id).b).1 (.inl rfl) with e | ⟨i, j, e⟩
        · exact e
        · obtain ⟨row, x, hi, hj⟩ := hT _ _ _ e
          obtain ⟨r, h1, rfl⟩ := flatC_get hi
          rw [List.getElem?_map, Option.map_eq_some_iff] at hj
          obtain ⟨y, hj, rfl⟩ := hj
          have := hr _ _ hi j (.v y) (by rw [List.getElem?_map, hj]; rfl)
          exact ((this.vsub _) e).elim
      have hb' : (cx w.heap (H.set id (.mem false refs rows)) (upd β id ((β id).ws noSub)) F).hp[(β id).b]? = some (.cells cs E (0, 0)) := by rw [hbb]; exact hb
      have hcap' : rows.length - (β id).lo ≤ (β id).cap := by rw [flatC_length] at hcap; omega
      have hlo' : (β id).lo ≤ rows.length := by omega
      refine .inr ⟨q1, hlo', hcap', fun i row hi => ?_, fun e => absurd e (by decide), cs, E, (0, 0), hb', fun _ => rfl, q5 _ _ _ hb', fun i row hi _ j x hj => ?_⟩
      · have := hlen i (row.map Ce.v) (by simp [flatC, hi])
        rwa [List.length_map] at this
      · have hi' : (flatC rows)[i]? = some (row.map Ce.v) := by simp [flatC, hi]
        have hj' : (row.map Ce.v)[j]? = some (.v x) := by rw [List.getElem?_map, hj]; rfl
        have h1 := hg i _ hi' j _ hj'
        have h2 := hr i _ hi' j _ hj'
        have hlt : 0 < (β id).cap := by have := lt_of_get hi'; omega
        have ho : (β id).o = o := by have := had hlt; injection this
        refine ⟨g i j, by show cs[(β id).o + (i - (β id).lo) * (β id).es + j]? = _; rw [q2, ho, Nat.sub_zero]; exact h1, h2.one, ?_⟩
        exact h2.val.mono (hle.only _)
end
end Go.Abs

namespace Go.Abs
set_option linter.unusedVariables false

theorem TR.sup {c : Cx} {refs refs' : List Nat} {S : Nat → Prop} {u : Value} {x : Ce} (h : TR c refs S u x) (hs : ∀ k ∈ refs, k ∈ refs') : TR c refs' S u x := by
  induction h with
  | v h1 h => exact .v h1 (h.mono ⟨Nat.le_refl _, fun _ _ hn => ⟨rfl, hn⟩, fun k hl => ⟨hs _ hl.1, hl.2⟩, fun _ _ _ e => .inl e⟩)
  | nil => exact .nil
  | n had cs E g T hb hcap hsz hlen hg hr hT hS hd hd2 ih => exact .n had cs E g T hb hcap hsz hlen hg (fun i row hi j x hj => ih i row hi j x hj) hT hS hd hd2

theorem TR.congr {c : Cx} {refs : List Nat} {S S' : Nat → Prop} {u : Value} {x : Ce} (h : TR c refs S u x) (hs : ∀ k, S k ↔ S' k) : TR c refs S' u x := by
  have : S = S' := funext fun k => propext (hs k)
  exact this ▸ h

theorem TR.addr {c : Cx} {refs : List Nat} {S : Nat → Prop} {ad ad' : Addr} {n cap es : Nat} {rows : List (List Ce)} (h : TR c refs S (.slice (some ad) n cap) (.n es rows)) (ha : 0 < cap → ad' = ad) : TR c refs S (.slice (some ad') n cap) (.n es rows) := by
  cases h with
  | nil => exact .nil
  | n had cs E g T hb hcap hsz hlen hg hr hT hS hd hd2 => exact .n (fun hc => (ha hc).trans (had hc)) cs E g T hb hcap hsz hlen hg hr hT hS hd hd2

theorem TR.cell {c : Cx} {refs : List Nat} {S : Nat → Prop} {ad : Addr} {n cap es i j : Nat} {rows : List (List Ce)} {row : List Ce} {x : Ce} (h : TR c refs S (.slice (some ad) n cap) (.n es rows)) (hi : rows[i]? = some row) (hj : row[j]? = some x) :
    ∃ u Sx, TR c refs Sx u x ∧ (∀ k, Sx k → S k) ∧ (∀ b o, (0 < cap → ad = ⟨b, o, none⟩) → rows ≠ [] → ¬ Sx b ∧ S b) ∧ ∀ (c' : Cx) (refs' : List Nat), c'.hp = c.hp → (∀ S u x, TR c refs S u x → TR c' refs' S u x) → ∀ (y : Ce) (Sy : Nat → Prop), TR c' refs' Sy u y → (∀ k, Sy k → S k → Sx k) → TR c' refs' (fun k => (S k ∧ ¬ Sx k) ∨ Sy k) (.slice (some ad) n cap) (.n es (rows.set i (row.set j y))) := by
  have hn : n = rows.length := by cases h <;> rfl
  subst hn
  obtain ⟨b, o, cs, E, g, T, had, hb, hcap, hsz, hlen, hg, hr, hT, hS, hd, hd2⟩ := h.inv (.inl (by rintro rfl; simp at hi))
  refine ⟨g i j, T i j, hr i row hi j x hj, fun k hk => (hS k).2 (.inr ⟨i, j, hk⟩), fun b' o' h1 h2 => ?_, fun c' refs' hhp hup y Sy hy hdis => ?_⟩
  · have hc : 0 < cap := by cases rows with
      | nil => exact absurd rfl h2
      | cons => exact Nat.lt_of_lt_of_le (by simp) hcap
    have e := (h1 hc).symm.trans (had hc)
    injection e with e
    subst e
    exact ⟨hd i j, (hS _).2 (.inl rfl)⟩
  · have hl : (rows.set i (row.set j y)).length = rows.length := List.length_set
    rw [← hl]
    have key : ∀ i' row', (rows.set i (row.set j y))[i']? = some row' → ∀ j' x', row'[j']? = some x' → (i' = i ∧ j' = j ∧ x' = y) ∨ (¬ (i' = i ∧ j' = j) ∧ ∃ r0, rows[i']? = some r0 ∧ r0[j']? = some x') := by
      intro i' row' h1 j' x' h2
      by_cases hii : i' = i
      · subst hii
        rw [get_set hi] at h1
        cases h1
        by_cases hjj : j' = j
        · subst hjj
          rw [get_set hj] at h2
          cases h2
          exact .inl ⟨rfl, rfl, rfl⟩
        · rw [getElem?_set_ne' hjj] at h2
          exact .inr ⟨fun e => hjj e.2, row, hi, h2⟩
      · rw [getElem?_set_ne' hii] at h1
        exact .inr ⟨fun e => hii e.1, row', h1, h2⟩
    refine .n had cs E g (fun i' j' k => if i' = i ∧ j' = j then Sy k else T i' j' k) (hhp ▸ hb) (by omega) hsz (fun i' row' h1 => ?_) (fun i' row' h1 j' x' h2 => ?_) (fun i' row' h1 j' x' h2 => ?_) (fun i' j' k h1 => ?_) (fun k => ⟨fun h1 => ?_, fun h1 => ?_⟩) (fun i' j' h1 => ?_) fun i1 j1 i2 j2 k h1 h2 => ?_
    · by_cases hii : i' = i
      · subst hii
        rw [get_set hi] at h1
        cases h1
        rw [List.length_set]; exact hlen _ _ hi
      · rw [getElem?_set_ne' hii] at h1
        exact hlen _ _ h1
    · rcases key i' row' h1 j' x' h2 with ⟨rfl, rfl, rfl⟩ | ⟨_, r0, h3, h4⟩
      · exact hg _ _ hi _ _ hj
      · exact hg _ _ h3 _ _ h4
    · rcases key i' row' h1 j' x' h2 with ⟨rfl, rfl, rfl⟩ | ⟨h5, r0, h3, h4⟩
      · simpa using hy
      · have : (fun k => if i' = i ∧ j' = j then Sy k else T i' j' k) = T i' j' := by funext k; rw [if_neg h5]
        rw [this]
        exact hup _ _ _ (hr _ _ h3 _ _ h4)
    · by_cases hij : i' = i ∧ j' = j
      · obtain ⟨rfl, rfl⟩ := hij
        exact ⟨row.set j' y, y, get_set hi, get_set hj⟩
      · rw [if_neg hij] at h1
        obtain ⟨r0, x0, h2, h3⟩ := hT _ _ _ h1
        by_cases hii : i' = i
        · subst hii
          rw [hi] at h2; cases h2
          have hjj : j' ≠ j := fun e => hij ⟨rfl, e⟩
          exact ⟨_, x0, get_set hi, by rw [getElem?_set_ne' hjj]; exact h3⟩
        · exact ⟨r0, x0, by rw [getElem?_set_ne' hii]; exact h2, h3⟩
    · rcases h1 with ⟨h1, h2⟩ | h1
      · rcases (hS k).1 h1 with h3 | ⟨i', j', h3⟩
        · exact .inl h3
        · refine .inr ⟨i', j', ?_⟩
          have : ¬ (i' = i ∧ j' = j) := by rintro ⟨rfl, rfl⟩; exact h2 h3
          rw [if_neg this]; exact h3
      · exact .inr ⟨i, j, by rw [if_pos ⟨rfl, rfl⟩]; exact h1⟩
    · rcases h1 with rfl | ⟨i', j', h1⟩
      · exact .inl ⟨(hS _).2 (.inl rfl), hd _ _⟩
      · by_cases hij : i' = i ∧ j' = j
        · rw [if_pos hij] at h1; exact .inr h1
        · rw [if_neg hij] at h1
          exact .inl ⟨(hS _).2 (.inr ⟨_, _, h1⟩), fun e => hij (hd2 _ _ _ _ _ h1 e)⟩
    · by_cases hij : i' = i ∧ j' = j
      · rw [if_pos hij] at h1
        exact hd _ _ (hdis _ h1 ((hS _).2 (.inl rfl)))
      · rw [if_neg hij] at h1
        exact hd _ _ h1
    · by_cases h3 : i1 = i ∧ j1 = j <;> by_cases h4 : i2 = i ∧ j2 = j
      · exact ⟨h3.1.trans h4.1.symm, h3.2.trans h4.2.symm⟩
      · rw [if_pos h3] at h1; rw [if_neg h4] at h2
        exact absurd (hd2 _ _ _ _ _ h2 (hdis _ h1 ((hS _).2 (.inr ⟨_, _, h2⟩)))) h4
      · rw [if_neg h3] at h1; rw [if_pos h4] at h2
        exact absurd (hd2 _ _ _ _ _ h1 (hdis _ h2 ((hS _).2 (.inr ⟨_, _, h1⟩)))) h3
      · rw [if_neg h3] at h1; rw [if_neg h4] at h2
        exact hd2 _ _ _ _ _ h1 h2

/-- Objects told otherwise, in the same memory. -/
theorem HOK.rearr {hp : Array Obj} {H H' : Heap} {β β' : Nat → Hd} {F K : Nat → Prop} (hk : HOK hp H β F)
    (hsame : ∀ k, ¬ K k → H'[k]? = H[k]? ∧ β' k = β k) (hliv : ∀ k, K k → liveIn H k → liveIn H' k) (hhd : ∀ k g', K k → liveIn H k → hdOf H' β' k = some g' → hdOf H β k = some g')
    (hown : ∀ k b, K k → ownsB H' β' k b → ∃ k0, K k0 ∧ ownsB H β k0 b) (hone : ∀ k k' b, K k → K k' → ownsB H' β' k b → ownsB H' β' k' b → k = k')
    (hro : (cx hp H β F).le (cx hp H' β' F) → ∀ k o, K k → H'[k]? = some o → RO (cx hp H' β' F) (β' k) o) :
    HOK hp H' β' F ∧ (cx hp H β F).le (cx hp H' β' F) := by
  have hob : ∀ k b, ¬ K k → (ownsB H' β' k b ↔ ownsB H β k b) := fun k b hn => by unfold ownsB; rw [(hsame k hn).1, (hsame k hn).2]
  have hoo : ∀ b, owned H' β' b → owned H β b := by
    rintro b ⟨k, h⟩
    by_cases hK : K k
    · obtain ⟨k0, _, h0⟩ := hown k b hK h
      exact ⟨k0, h0⟩
    · exact ⟨k, (hob k b hK).1 h⟩
  have hle : (cx hp H β F).le (cx hp H' β' F) := by
    refine ⟨Nat.le_refl _, fun b hb hn => ⟨rfl, fun e => hn (e.imp (hoo b) id)⟩, fun k hl => ?_, fun k g' hl hg => ?_⟩
    · by_cases hK : K k
      · exact hliv k hK hl
      · obtain ⟨o, h1, h2⟩ := hl
        exact ⟨o, (hsame k hK).1.trans h1, h2⟩
    · by_cases hK : K k
      · exact .inl (hhd k g' hK hl hg)
      · refine .inl ?_
        have hg' : hdOf H' β' k = some g' := hg
        show hdOf H β k = some g'
        unfold hdOf at hg' ⊢
        rw [(hsame k hK).1, (hsame k hK).2] at hg'
        exact hg'
  refine ⟨⟨fun k o ho => ?_, fun k k' b h1 h2 => ?_, fun b hb => ⟨(hk.far b hb).1, fun e => (hk.far b hb).2 (hoo b e)⟩⟩, hle⟩
  · by_cases hK : K k
    · exact hro hle k o hK ho
    · rw [(hsame k hK).1] at ho
      rw [(hsame k hK).2]
      exact (hk.ro k o ho).mono hle rfl (fun hn e => hn (e.imp (hoo _) id)) fun _ _ _ _ _ _ => rfl
  · by_cases hK : K k <;> by_cases hK' : K k'
    · exact hone k k' b hK hK' h1 h2
    · exfalso
      obtain ⟨k0, h3, h4⟩ := hown k b hK h1
      have := hk.one _ _ _ h4 ((hob k' b hK').1 h2)
      exact hK' (this ▸ h3)
    · exfalso
      obtain ⟨k0, h3, h4⟩ := hown k' b hK' h2
      have := hk.one _ _ _ h4 ((hob k b hK).1 h1)
      exact hK (this ▸ h3)
    · exact hk.one _ _ _ ((hob k b hK).1 h1) ((hob k' b hK').1 h2)
end Go.Abs

namespace Go.Abs
set_option linter.unusedVariables false
section
variable {w : World} {β : Nat → Hd} {F : Nat → Prop} {H : Heap}

theorem live_set {H : Heap} {id k : Nat} {o : O} (ho : o ≠ .res) (h : liveIn H k) : liveIn (H.set id o) k := by
  obtain ⟨q, h1, h2⟩ := h
  by_cases hk : k = id
  · subst hk; exact ⟨o, get_set h1, ho⟩
  · exact ⟨q, by rw [getElem?_set_ne' hk]; exact h1, h2⟩

/-- What the cell's own slice and its object lie in. -/
theorem own_cell {id es k : Nat} {refs' refs : List Nat} {rows' : List (List Ce)} {u : Value} (hk : HOK w.heap H β F) (hid : H[id]? = some (.tree refs' rows')) (hl : rows'.length = k)
    (hu : RV ((cx w.heap H β F).only refs) u (.own id es 0 k k)) : TR (cx w.heap H β F) refs' (fun b => ownsB H β id b) u (.n es rows') := by
  have hd : hdOf H β id = some ((β id).wt k) := by unfold hdOf; rw [hid]; simp [hl]
  cases hu with
  | own hlive h =>
    obtain ⟨_, h2⟩ := h _ hd
    obtain ⟨_, hes, hs⟩ := h2 rfl
    have hob : ∀ b, ownsB H β id b ↔ (β id).nil = false ∧ ((β id).b = b ∨ (β id).sub b) := fun b => by unfold ownsB; rw [hid]
    have hes' : (β id).es = es := hes
    rcases hs with ⟨hn, ⟨ad, rfl⟩, hk0⟩ | ⟨hn, ad, rfl, _, had⟩
    · have hn' : (β id).nil = true := hn
      obtain rfl : rows' = [] := List.length_eq_zero_iff.1 (by omega)
      exact TR.nil.congr fun b => ⟨fun e => e.elim, fun e => by have := ((hob b).1 e).1; rw [hn'] at this; cases this⟩
    · have hn' : (β id).nil = false := hn
      rcases hk.ro id _ hid with hr | ⟨_, q2, _, q4, _⟩
      · rw [hr.1] at hn'; cases hn'
      · have hcap : ((β id).wt k).cap - (0 - ((β id).wt k).lo) = (β id).cap := by show (β id).cap - (0 - (β id).lo) = _; omega
        rw [hcap]
        rw [hes', hl] at q4
        refine (q4.addr fun hc => ?_).congr fun b => by rw [hob]; simp [hn']
        have := had (by show 0 - (β id).lo < (β id).cap; omega)
        rw [this]
        show (⟨(β id).b, (β id).o + (0 - (β id).lo) * (β id).es, none⟩ : Addr) = _
        simp

theorem adv_pack {id id' i j es k : Nat} {refs refs' : List Nat} {rows rows' : List (List Ce)} {row : List Ce} (hk : HOK w.heap H β F) (hid : H[id]? = some (.tree refs rows)) (hid' : H[id']? = some (.tree refs' rows')) (hne : id ≠ id')
    (hi : rows[i]? = some row) (hj : row[j]? = some (.v (.own id' es 0 k k))) (hlen : rows'.length = k) :
    ∃ β', Adv F w H β w ((H.set id' .dead).set id (.tree (refs ++ refs') (rows.set i (row.set j (.n es rows'))))) β' := by
  generalize hH' : (H.set id' .dead).set id (.tree (refs ++ refs') (rows.set i (row.set j (.n es rows')))) = H'
  have hid0 : (H.set id' O.dead)[id]? = some (.tree refs rows) := by rw [getElem?_set_ne' hne]; exact hid
  have e1 : H'[id]? = some (.tree (refs ++ refs') (rows.set i (row.set j (.n es rows')))) := by rw [← hH']; exact get_set hid0
  have e2 : H'[id']? = some .dead := by rw [← hH', getElem?_set_ne' (Ne.symm hne)]; exact get_set hid'
  have e3 : ∀ k, k ≠ id → k ≠ id' → H'[k]? = H[k]? := fun k h1 h2 => by rw [← hH', getElem?_set_ne' h1, getElem?_set_ne' h2]
  have hnn : (β id).nil = false ∧ (β id).lo = 0 ∧ ¬ (β id).sub (β id).b ∧ TR (cx w.heap H β F) refs (fun b => (β id).b = b ∨ (β id).sub b) (.slice (some ⟨(β id).b, (β id).o, none⟩) rows.length (β id).cap) (.n (β id).es rows) ∧ ∀ cs E fr, (cx w.heap H β F).hp[(β id).b]? = some (.cells cs E fr) → (β id).o + (β id).cap * (β id).es ≤ cs.size := by
    rcases hk.ro id _ hid with hr | hr
    · rw [hr.2.1] at hi; simp at hi
    · exact hr
  obtain ⟨q1, q2, q3, q4, q5⟩ := hnn
  obtain ⟨u, Sx, hx, hxs, hxb, hset⟩ := (q4.sup (refs' := refs ++ refs') fun k hk => List.mem_append.2 (.inl hk)).cell hi hj
  have hc := own_cell hk hid' hlen hx.val
  have ho1 : ∀ b, ownsB H β id b ↔ (β id).b = b ∨ (β id).sub b := fun b => by unfold ownsB; rw [hid]; simp [q1]
  have hsx := hx.vsub
  have hnew := hset _ _ rfl (fun _ _ _ h => h) (.n es rows') (ownsB H β id') (hc.sup fun k hk => List.mem_append.2 (.inr hk)) fun b h1 h2 => absurd (hk.one _ _ _ ((ho1 b).2 h2) h1) hne
  let β' := upd β id ((β id).ws fun b => (β id).sub b ∨ ownsB H β id' b)
  have ho2 : ∀ b, ownsB H' β' id b ↔ ((β id).b = b ∨ (β id).sub b) ∨ ownsB H β id' b := fun b => by
    unfold ownsB; rw [e1]
    simp only [β', upd_same, q1, true_and, or_assoc]
    unfold ownsB; exact Iff.rfl
  have hd2 : hdOf H' β' id = hdOf H β id := by
    unfold hdOf; rw [e1, hid]; simp only [β', upd_same, List.length_set]; rfl
  obtain ⟨h1, h2⟩ := hk.rearr (H' := H') (β' := β') (K := fun k => k = id ∨ k = id')
    (fun k hK => ⟨e3 k (fun e => hK (.inl e)) (fun e => hK (.inr e)), upd_ne β _ fun e => hK (.inl e)⟩)
    (fun k _ hl => by rw [← hH']; exact live_set (by simp) (live_set (by simp) hl))
    (fun k g' hK _ hg => by
      rcases hK with rfl | rfl
      · rw [← hd2]; exact hg
      · unfold hdOf at hg; rw [e2] at hg; cases hg)
    (fun k b hK hb => by
      rcases hK with rfl | rfl
      · rcases (ho2 b).1 hb with h | h
        · exact ⟨k, .inl rfl, (ho1 b).2 h⟩
        · exact ⟨id', .inr rfl, h⟩
      · unfold ownsB at hb; rw [e2] at hb; exact hb.elim)
    (fun k k' b hK hK' h1 h2 => by
      rcases hK with rfl | rfl
      · rcases hK' with rfl | rfl
        · rfl
        · unfold ownsB at h2; rw [e2] at h2; exact h2.elim
      · unfold ownsB at h1; rw [e2] at h1; exact h1.elim)
    (fun hle k o hK ho => by
      rcases hK with rfl | rfl
      · rw [e1] at ho; cases ho
        have hb : β' k = (β k).ws fun b => (β k).sub b ∨ ownsB H β id' b := upd_same _ _ _
        rw [hb]
        refine .inr ⟨q1, q2, fun e => ?_, ?_, q5⟩
        · rcases e with e | e
          · exact q3 e
          · exact hne (hk.one _ _ _ ((ho1 _).2 (.inl rfl)) e)
        · have := (hnew.mono (hle.only _) fun _ _ => rfl).congr (S' := fun b => (β k).b = b ∨ ((β k).sub b ∨ ownsB H β id' b)) fun b => by
            have := hsx b
            constructor
            · rintro (⟨h | h, _⟩ | h)
              · exact .inl h
              · exact .inr (.inl h)
              · exact .inr (.inr h)
            · rintro (h | h | h)
              · exact .inl ⟨.inl h, this⟩
              · exact .inl ⟨.inr h, this⟩
              · exact .inr h
          rw [List.length_set]
          exact this
      · rw [e2] at ho; cases ho; trivial)
  exact ⟨β', h1, h2, .refl _ _⟩

end
end Go.Abs

namespace Go.Abs
set_option linter.unusedVariables false
section
variable {w : World} {β : Nat → Hd} {F : Nat → Prop} {H : Heap}

/-- A cell's slice by itself: how an object that lies so would lie. -/
theorem TR.alone {c : Cx} {refs : List Nat} {S : Nat → Prop} {u : Value} {es : Nat} {rows : List (List Ce)} (h : TR c refs S u (.n es rows)) :
    ∃ hd : Hd, hd.es = es ∧ hd.lo = 0 ∧ (hd.wt rows.length).slice 0 rows.length u ∧ (∀ b, (hd.nil = false ∧ (hd.b = b ∨ hd.sub b)) ↔ S b) ∧ RO c hd (.tree refs rows) := by
  cases h with
  | nil =>
    refine ⟨⟨0, 0, 0, es, 0, true, 0, noSub⟩, rfl, rfl, .inl ⟨rfl, ⟨_, rfl⟩, rfl⟩, fun b => ⟨?_, fun e => e.elim⟩, .inl ⟨rfl, rfl, rfl⟩⟩
    rintro ⟨e, _⟩
    cases e
  | n had cs E g T hb hcap hsz hlen hg hr hT hS hd hd2 =>
    rename_i ad b o cap
    refine ⟨⟨b, o, cap, es, 0, false, 0, fun k => S k ∧ k ≠ b⟩, rfl, rfl, .inr ⟨rfl, ad, by simp [Hd.wt], by simp [Hd.wt], fun hc => ?_⟩, fun k => ?_, .inr ⟨rfl, rfl, fun e => e.2 rfl, ?_, fun cs' E' fr' e => ?_⟩⟩
    · have := had (by simpa [Hd.wt] using hc)
      simp [Hd.wt, this]
    · constructor
      · rintro ⟨_, rfl | e⟩
        · exact (hS _).2 (.inl rfl)
        · exact e.1
      · intro e
        by_cases hkb : b = k
        · exact ⟨rfl, .inl hkb⟩
        · exact ⟨rfl, .inr ⟨e, fun e => hkb e.symm⟩⟩
    · refine (TR.n (ad := ⟨b, o, none⟩) (fun _ => rfl) cs E g T hb hcap hsz hlen hg hr hT hS hd hd2).congr fun k => ?_
      constructor
      · intro e
        by_cases hkb : b = k
        · exact .inl hkb
        · exact .inr ⟨e, fun e => hkb e.symm⟩
      · rintro (rfl | e)
        · exact (hS _).2 (.inl rfl)
        · exact e.1
    · rw [hb] at e; cases e; exact hsz

theorem adv_unpack {id i j es : Nat} {refs : List Nat} {rows rows' : List (List Ce)} {row : List Ce} (hk : HOK w.heap H β F) (hid : H[id]? = some (.tree refs rows))
    (hi : rows[i]? = some row) (hj : row[j]? = some (.n es rows')) :
    ∃ β', Adv F w H β w (H.set id (.tree (H.length :: refs) (rows.set i (row.set j (.v (.own H.length es 0 rows'.length rows'.length))))) ++ [.tree refs rows']) β' := by
  generalize hH' : H.set id (.tree (H.length :: refs) (rows.set i (row.set j (.v (.own H.length es 0 rows'.length rows'.length))))) ++ [.tree refs rows'] = H'
  have hlt := lt_of_get hid
  have e1 : H'[id]? = some (.tree (H.length :: refs) (rows.set i (row.set j (.v (.own H.length es 0 rows'.length rows'.length))))) := by
    rw [← hH', List.getElem?_append_left (by rw [List.length_set]; exact hlt)]; exact get_set hid
  have e2 : H'[H.length]? = some (.tree refs rows') := by
    rw [← hH', List.getElem?_append_right (by rw [List.length_set]; exact Nat.le_refl _), List.length_set, Nat.sub_self]; rfl
  have e3 : ∀ k, k ≠ id → k ≠ H.length → H'[k]? = H[k]? := fun k h1 h2 => by
    rw [← hH']
    by_cases hkl : k < H.length
    · rw [List.getElem?_append_left (by rw [List.length_set]; exact hkl), getElem?_set_ne' h1]
    · rw [List.getElem?_append_right (by rw [List.length_set]; omega), List.length_set, List.getElem?_eq_none (by simp; omega), List.getElem?_eq_none (by omega)]
  have hne : id ≠ H.length := by omega
  have hnl : ∀ {P : Prop}, liveIn H H.length → P := fun ⟨o, h, _⟩ => by rw [List.getElem?_eq_none (Nat.le_refl _)] at h; cases h
  have hnn : (β id).nil = false ∧ (β id).lo = 0 ∧ ¬ (β id).sub (β id).b ∧ TR (cx w.heap H β F) refs (fun b => (β id).b = b ∨ (β id).sub b) (.slice (some ⟨(β id).b, (β id).o, none⟩) rows.length (β id).cap) (.n (β id).es rows) ∧ ∀ cs E fr, (cx w.heap H β F).hp[(β id).b]? = some (.cells cs E fr) → (β id).o + (β id).cap * (β id).es ≤ cs.size := by
    rcases hk.ro id _ hid with hr | hr
    · rw [hr.2.1] at hi; simp at hi
    · exact hr
  obtain ⟨q1, q2, q3, q4, q5⟩ := hnn
  obtain ⟨u, Sx, hx, hxs, hxb, hset⟩ := q4.cell hi hj
  have hxb' := hxb (β id).b (β id).o (fun _ => rfl) (fun e => by rw [e] at hi; simp at hi)
  obtain ⟨hd, a1, a2, a3, a4, a5⟩ := hx.alone
  have ho1 : ∀ b, ownsB H β id b ↔ (β id).b = b ∨ (β id).sub b := fun b => by unfold ownsB; rw [hid]; simp [q1]
  let β' := upd (upd β id ((β id).ws fun b => (β id).sub b ∧ ¬ Sx b)) H.length hd
  have b1 : β' id = (β id).ws fun b => (β id).sub b ∧ ¬ Sx b := by simp only [β']; rw [upd_ne _ _ hne, upd_same]
  have b2 : β' H.length = hd := upd_same _ _ _
  have ho2 : ∀ b, ownsB H' β' id b ↔ ((β id).b = b ∨ (β id).sub b) ∧ ¬ Sx b := fun b => by
    unfold ownsB; rw [e1]
    simp only [b1, q1, true_and]
    constructor
    · rintro (rfl | h)
      · exact ⟨.inl rfl, hxb'.1⟩
      · exact ⟨.inr h.1, h.2⟩
    · rintro ⟨h | h, h2⟩
      · exact .inl h
      · exact .inr ⟨h, h2⟩
  have ho3 : ∀ b, ownsB H' β' H.length b ↔ Sx b := fun b => by
    unfold ownsB; rw [e2]; simp only [b2]; exact a4 b
  have hd2 : hdOf H' β' id = hdOf H β id := by
    unfold hdOf; rw [e1, hid]; simp only [b1, List.length_set]; rfl
  have hd3 : hdOf H' β' H.length = some (hd.wt rows'.length) := by
    unfold hdOf; rw [e2]; simp only [b2]
  obtain ⟨h1, h2⟩ := hk.rearr (H' := H') (β' := β') (K := fun k => k = id ∨ k = H.length)
    (fun k hK => ⟨e3 k (fun e => hK (.inl e)) (fun e => hK (.inr e)), by simp only [β']; rw [upd_ne _ _ fun e => hK (.inr e), upd_ne _ _ fun e => hK (.inl e)]⟩)
    (fun k hK hl => by
      rcases hK with rfl | rfl
      · exact ⟨_, e1, by simp⟩
      · exact hnl hl)
    (fun k g' hK hl hg => by
      rcases hK with rfl | rfl
      · rw [← hd2]; exact hg
      · exact hnl hl)
    (fun k b hK hb => by
      rcases hK with rfl | rfl
      · exact ⟨k, .inl rfl, (ho1 b).2 ((ho2 b).1 hb).1⟩
      · exact ⟨id, .inl rfl, (ho1 b).2 (hxs b ((ho3 b).1 hb))⟩)
    (fun k k' b hK hK' h1 h2 => by
      rcases hK with rfl | rfl <;> rcases hK' with rfl | rfl
      · rfl
      · exact absurd ((ho3 b).1 h2) ((ho2 b).1 h1).2
      · exact absurd ((ho3 b).1 h1) ((ho2 b).1 h2).2
      · rfl)
    (fun hle k o hK ho => by
      rcases hK with rfl | rfl
      · rw [e1] at ho; cases ho
        rw [b1]
        refine .inr ⟨q1, q2, fun e => q3 e.1, ?_, q5⟩
        have hone := hx.one
        have hown : RV ((cx w.heap H' β' F).only (H.length :: refs)) u (.own H.length es 0 rows'.length rows'.length) := by
          refine .own ⟨List.mem_cons_self, ⟨_, e2, by simp⟩⟩ fun h hh => ?_
          have hh' : hdOf H' β' H.length = some h := hh
          rw [hd3] at hh'
          cases hh'
          exact ⟨Nat.le_refl _, fun _ => ⟨by show hd.lo ≤ 0; omega, a1, a3⟩⟩
        have := hset (cx w.heap H' β' F) (H.length :: refs) rfl (fun S u x h => (h.mono (hle.only _) fun _ _ => rfl).sup fun k hk => List.mem_cons_of_mem _ hk) _ noSub (.v hone hown) (fun k h => h.elim)
        rw [List.length_set]
        refine this.congr fun b => ?_
        constructor
        · rintro (⟨h | h, h2⟩ | h)
          · exact .inl h
          · exact .inr ⟨h, h2⟩
          · exact h.elim
        · rintro (rfl | h)
          · exact .inl ⟨.inl rfl, hxb'.1⟩
          · exact .inl ⟨.inr h.1, h.2⟩
      · rw [e2] at ho; cases ho
        rw [b2]
        exact a5.mono hle rfl (fun hn e => hn (e.imp (fun ⟨k0, h0⟩ => by
          by_cases hA : k0 = id
          · subst hA; exact ⟨k0, (ho1 _).2 ((ho2 _).1 h0).1⟩
          · by_cases hB : k0 = H.length
            · subst hB; exact ⟨id, (ho1 _).2 (hxs _ ((ho3 _).1 h0))⟩
            · refine ⟨k0, ?_⟩
              unfold ownsB at h0 ⊢
              have : β' k0 = β k0 := by simp only [β']; rw [upd_ne _ _ hB, upd_ne _ _ hA]
              rw [e3 k0 hA hB, this] at h0
              exact h0) fun e => e)) fun _ _ _ _ _ _ => rfl)
  exact ⟨β', h1, h2, .refl _ _⟩

end
end Go.Abs

/- Contracts: what a call leaves that its caller has no use for. -/
namespace Go.Abs
set_option linter.unusedVariables false

theorem hok_trim {n : Nat} {F : Nat → Prop} {w : World} {β : Nat → Hd} {H : Heap} (hk : HOK w.heap H β F) :
    HOK w.heap ((H.take n).map (limO n)) β F ∧ (∀ id b, ownsB ((H.take n).map (limO n)) β id b → ownsB H β id b) ∧ (∀ id g, hdOf ((H.take n).map (limO n)) β id = some g → hdOf H β id = some g) ∧ (∀ id, id < n → liveIn H id → liveIn ((H.take n).map (limO n)) id) ∧
      ∀ refs : List Nat, (∀ i ∈ refs, i < n) → ((cx w.heap H β F).only refs).le ((cx w.heap ((H.take n).map (limO n)) β F).only refs) := by
  have hget : ∀ {id : Nat} {o : O}, ((H.take n).map (limO n))[id]? = some o → id < n ∧ ∃ o', H[id]? = some o' ∧ o = limO n o' := by
    intro id o h
    simp only [List.getElem?_map, Option.map_eq_some_iff] at h
    obtain ⟨o', h, rfl⟩ := h
    rw [List.getElem?_take] at h
    split at h
    · next hlt => exact ⟨hlt, o', h, rfl⟩
    · cases h
  have hown : ∀ id b, ownsB ((H.take n).map (limO n)) β id b → ownsB H β id b := by
    intro id b h
    unfold ownsB at h
    cases h1 : ((H.take n).map (limO n))[id]? with
    | none => rw [h1] at h; exact h.elim
    | some o =>
      obtain ⟨hlt, o', h2, rfl⟩ := hget h1
      rw [h1] at h
      unfold ownsB
      rw [h2]
      unfold limO at h
      split at h
      · next e =>
        split at e
        · injection e with e; subst e; exact h
        · cases e
      · next e =>
        split at e
        · injection e with e; subst e; exact h
        · cases e
      · next e =>
        split at e
        · injection e with e; subst e; exact h
        · cases e
      · next e =>
        split at e
        · injection e with e; subst e; exact h
        · cases e
      · exact h.elim
  have hhd : ∀ id g, hdOf ((H.take n).map (limO n)) β id = some g → hdOf H β id = some g := by
    intro id g h
    unfold hdOf at h
    cases h1 : ((H.take n).map (limO n))[id]? with
    | none => rw [h1] at h; cases h
    | some o =>
      obtain ⟨hlt, o', h2, rfl⟩ := hget h1
      rw [h1] at h
      unfold hdOf
      rw [h2]
      unfold limO at h
      split at h
      · next e =>
        split at e
        · injection e with e; subst e; exact h
        · cases e
      · next e =>
        split at e
        · injection e with e; subst e; exact h
        · cases e
      · next e =>
        split at e
        · injection e with e; subst e; exact h
        · cases e
      · next e =>
        split at e
        · injection e with e; subst e; exact h
        · cases e
      · cases h
  have hlive : ∀ id, id < n → liveIn H id → liveIn ((H.take n).map (limO n)) id := by
    rintro id hlt ⟨o, h1, h2⟩
    refine ⟨limO n o, ?_, ?_⟩
    · simp [List.getElem?_take, hlt, h1]
    · unfold limO; split
      · exact h2
      · intro e; cases e
  have hle : ∀ refs : List Nat, (∀ i ∈ refs, i < n) → ((cx w.heap H β F).only refs).le ((cx w.heap ((H.take n).map (limO n)) β F).only refs) := by
    intro refs hrefs
    refine ⟨Nat.le_refl _, fun b hb hno => ⟨rfl, fun e => hno ?_⟩, fun id hl => ⟨hl.1, hlive id (hrefs id hl.1) hl.2⟩, fun id g' hl e => .inl (hhd id g' e)⟩
    rcases e with ⟨id, e⟩ | e
    · exact .inl ⟨id, hown id b e⟩
    · exact .inr e
  refine ⟨⟨fun id o h => ?_, fun id id' b h1 h2 => hk.one id id' b (hown _ _ h1) (hown _ _ h2), fun b hb => ⟨(hk.far b hb).1, fun ⟨id, e⟩ => (hk.far b hb).2 ⟨id, hown _ _ e⟩⟩⟩, hown, hhd, hlive, hle⟩
  · obtain ⟨hlt, o', h2, rfl⟩ := hget h
    have hro := hk.ro id o' h2
    unfold limO
    split
    · next hrefs =>
      have hrefs' : ∀ i ∈ o'.refs, i < n := fun i hi => by simpa using List.all_eq_true.1 hrefs i hi
      have hownb : ∀ b, (cx w.heap ((H.take n).map (limO n)) β F).own b → (cx w.heap H β F).own b := by
        rintro b (⟨id, e⟩ | e)
        · exact .inl ⟨id, hown id b e⟩
        · exact .inr e
      cases o' with
      | res => trivial
      | dead => trivial
      | sit s pos => exact hro
      | tree refs rows =>
        rcases hro with hro | ⟨q1, q2, q3, q4, q5⟩
        · exact .inl hro
        · exact .inr ⟨q1, q2, q3, q4.mono (hle refs hrefs') fun _ _ => rfl, q5⟩
      | mem fz refs rows =>
        rcases hro with hro | ⟨q1, q2, q3, q4, q5, cs, E, fr, q6, q7, q8, q9⟩
        · exact .inl hro
        · refine .inr ⟨q1, q2, q3, q4, fun e k => q5 e (hownb _ k), cs, E, fr, q6, q7, q8, fun i row hi hlo j x hj => ?_⟩
          obtain ⟨v, e1, e2, e3⟩ := q9 i row hi hlo j x hj
          exact ⟨v, e1, e2, e3.mono (hle refs hrefs')⟩
      | map fz refs es =>
        obtain ⟨q1, ents, clock, q2, q3, q4, q5, q6⟩ := hro
        exact ⟨fun e k => q1 e (hownb _ k), ents, clock, q2, q3, q4, q5, fun i e x he hx => ⟨(q6 i e x he hx).1.mono (hle [] (by simp)), (q6 i e x he hx).2.mono (hle refs hrefs')⟩⟩
    · trivial

theorem DC.trim {P : Program} {f : FuncId} {xs : List V} {H : Heap} {Q Q' : V → Heap → Prop} (h : DC P f xs H Q)
    (hq : ∀ x H', Q x H' → ∃ n, H.length ≤ n ∧ (∀ i ∈ x.ids, i < n) ∧ Q' x ((H'.take n).map (limO n))) : DC P f xs H Q' := fun w β F vs hk hr =>
  (h w β F vs hk hr).mono fun e w' ⟨r, x, H', β2, h1, h2, h3, h4⟩ => by
    obtain ⟨n, hn, hx, hQ⟩ := hq x H' h4
    obtain ⟨t1, hown, hhd, hlive, hle⟩ := hok_trim (n := n) h2.hok
    refine ⟨r, x, _, β2, h1, ⟨t1, ⟨h2.le.size, fun b hb hno => ⟨(h2.le.same b hb hno).1, fun e => (h2.le.same b hb hno).2 (e.imp (fun ⟨id, e⟩ => ⟨id, hown _ _ e⟩) fun e => e)⟩, fun id hl => ?_, fun id g' hl e => h2.le.hd id g' hl (hhd _ _ e)⟩, h2.ext⟩, ?_, hQ⟩
    · have hlt : id < H.length := by obtain ⟨o, e, _⟩ := hl; exact lt_of_get e
      exact hlive id (Nat.lt_of_lt_of_le hlt hn) (h2.le.live id hl)
    · exact ((h3.onlyOf _ fun i hi => hi).mono (hle _ hx)).up
end Go.Abs

namespace Go.Abs
set_option linter.unusedVariables false
section
variable {w : World} {β : Nat → Hd} {F : Nat → Prop} {H : Heap}

/-- An object of trees told otherwise, in the same blocks. -/
theorem adv_tree {id : Nat} {refs refs' : List Nat} {rows rows' : List (List Ce)} (hk : HOK w.heap H β F) (hid : H[id]? = some (.tree refs rows)) (hl : rows'.length = rows.length)
    (h : ∀ c' : Cx, c'.hp = w.heap → ((cx w.heap H β F).only refs).le (c'.only refs) → ∀ S ad cap es, TR c' refs S (.slice (some ad) rows.length cap) (.n es rows) → TR c' refs' S (.slice (some ad) rows.length cap) (.n es rows')) :
    ∃ β', Adv F w H β w (H.set id (.tree refs' rows')) β' := by
  refine ⟨_, turn_at (S := (β id).sub) hk hid (by simp) (fun b hb => ?_) (fun g' hg => ?_) fun hle => ?_⟩
  · unfold ownsB at hb ⊢
    rw [get_set hid, upd_same] at hb
    rw [hid]
    exact hb
  · unfold hdOf at hg ⊢
    rw [get_set hid, upd_same] at hg
    rw [hid]
    simp only [hl] at hg
    exact hg
  · rcases hk.ro id _ hid with hr | ⟨q1, q2, q3, q4, q5⟩
    · refine .inl ⟨hr.1, ?_, hr.2.2⟩
      have := hr.2.1
      exact List.length_eq_zero_iff.1 (by rw [hl, this]; rfl)
    · refine .inr ⟨q1, q2, q3, ?_, q5⟩
      rw [hl]
      exact h _ rfl (hle.only _) _ _ _ _ (q4.mono (hle.only _) fun _ _ => rfl)

theorem adv_refsT {id : Nat} {refs refs' : List Nat} {rows : List (List Ce)} (hk : HOK w.heap H β F) (hid : H[id]? = some (.tree refs rows)) (hs : ∀ k ∈ Ce.idsR rows, k ∈ refs') : ∃ β', Adv F w H β w (H.set id (.tree refs' rows)) β' :=
  adv_tree hk hid rfl fun c' _ _ S ad cap es h => h.refs fun k hk => hs k (by simpa only [Ce.ids] using hk)

theorem adv_nilcell {id i j es : Nat} {refs : List Nat} {rows : List (List Ce)} {row : List Ce} (hk : HOK w.heap H β F) (hid : H[id]? = some (.tree refs rows)) (hi : rows[i]? = some row) (hj : row[j]? = some (.v (.a (.slice none 0 0)))) :
    ∃ β', Adv F w H β w (H.set id (.tree refs (rows.set i (row.set j (.n es []))))) β' := by
  refine adv_tree hk hid List.length_set fun c' _ _ S ad cap es' h => ?_
  obtain ⟨u, Sx, hx, hxs, _, hset⟩ := h.cell hi hj
  have hu : u = .slice none 0 0 := by
    have := hx.val
    cases this with
    | a => rfl
  subst hu
  have hn := hx.vsub
  exact (hset c' refs rfl (fun _ _ _ h => h) (.n es []) noSub .nil fun k e => e.elim).congr fun k => ⟨fun e => e.elim (fun e => e.1) fun e => e.elim, fun e => .inl ⟨e, hn k⟩⟩

theorem lo_of_ptr {c : Cx} {v : Value} {id n : Nat} {h : Hd} (hv : RV c v (.ptr id n 0 0)) (hd : c.hd id = some h) (ht : h.tot = n) : h.lo = 0 := by
  cases hv with
  | ptr hl hh => exact Nat.le_zero.1 ((hh h hd).2 ht).1

abbrev nilS : V := .a (.slice none 0 0)

/-- A struct of two nil slices, as one that owns two slices. -/
theorem adv_nil2 {id e1 e2 : Nat} (hk : HOK w.heap H β F) (hid : H[id]? = some (.mem false [] [[nilS, nilS]])) (hlo : (β id).lo = 0) :
    ∃ β', Adv F w H β w (H.set id (.mem false [H.length, H.length + 1] [[.own H.length e1 0 0 0, .own (H.length + 1) e2 0 0 0]]) ++ [.mem false [] [], .tree [] []]) β' := by
  have hlt := lt_of_get hid
  obtain ⟨β1, a1⟩ := adv_toTree hk hid hlo
  have g1 := get_set (y := O.tree [] (flatC [[nilS, nilS]])) hid
  obtain ⟨β2, a2⟩ := adv_nilcell (i := 0) (j := 0) (es := e1) a1.hok g1 rfl rfl
  rw [List.set_set] at a2
  have g2 := get_set (y := O.tree [] [[.n e1 [], .v nilS]]) hid
  obtain ⟨β3, a3⟩ := adv_nilcell (i := 0) (j := 1) (es := e2) a2.hok g2 rfl rfl
  rw [List.set_set] at a3
  have g3 := get_set (y := O.tree [] [[.n e1 [], .n e2 []]]) hid
  obtain ⟨β4, a4⟩ := adv_unpack (i := 0) (j := 0) a3.hok g3 rfl rfl
  rw [List.set_set, List.length_set] at a4
  replace a4 : Adv F w (H.set id (.tree [] [[.n e1 [], .n e2 []]])) β3 w (H.set id (.tree [H.length] [[.v (.own H.length e1 0 0 0), .n e2 []]]) ++ [O.tree [] []]) β4 := a4
  have g4 : (H.set id (.tree [H.length] [[.v (.own H.length e1 0 0 0), .n e2 []]]) ++ [O.tree [] []])[id]? = some (.tree [H.length] [[.v (.own H.length e1 0 0 0), .n e2 []]]) := by
    rw [List.getElem?_append_left (by simpa using hlt)]; exact get_set hid
  obtain ⟨β5, a5⟩ := adv_unpack (i := 0) (j := 1) a4.hok g4 rfl rfl
  have e5 : (H.set id (.tree [H.length] [[.v (.own H.length e1 0 0 0), .n e2 []]]) ++ [O.tree [] []]).set id (.tree [H.length + 1, H.length] [[.v (.own H.length e1 0 0 0), .v (.own (H.length + 1) e2 0 0 0)]]) ++ [.tree [H.length] []] = H.set id (.tree [H.length + 1, H.length] [[.v (.own H.length e1 0 0 0), .v (.own (H.length + 1) e2 0 0 0)]]) ++ [.tree [] [], .tree [H.length] []] := by
    rw [List.set_append, if_pos (by simpa using hlt), List.set_set, List.append_assoc]; rfl
  have l5 : (H.set id (.tree [H.length] [[.v (.own H.length e1 0 0 0), .n e2 []]]) ++ [O.tree [] []]).length = H.length + 1 := by simp
  rw [l5] at a5
  have a5' : Adv F w (H.set id (.tree [H.length] [[.v (.own H.length e1 0 0 0), .n e2 []]]) ++ [O.tree [] []]) β4 w ((H.set id (.tree [H.length] [[.v (.own H.length e1 0 0 0), .n e2 []]]) ++ [O.tree [] []]).set id (.tree [H.length + 1, H.length] [[.v (.own H.length e1 0 0 0), .v (.own (H.length + 1) e2 0 0 0)]]) ++ [.tree [H.length] []]) β5 := a5
  rw [e5] at a5'
  generalize hP : O.tree [H.length + 1, H.length] [[.v (.own H.length e1 0 0 0), .v (.own (H.length + 1) e2 0 0 0)]] = P at a5'
  have g5 : (H.set id P ++ [O.tree [] [], O.tree [H.length] []])[H.length + 1]? = some (.tree [H.length] []) := by
    rw [List.getElem?_append_right (by simp)]; simp
  obtain ⟨β6, a6⟩ := adv_refsT (refs' := []) a5'.hok g5 (by simp [Ce.idsR])
  have e6 : (H.set id P ++ [O.tree [] [], O.tree [H.length] []]).set (H.length + 1) (O.tree [] []) = H.set id P ++ [O.tree [] [], O.tree [] []] := by
    rw [List.set_append, if_neg (by simp)]; simp
  rw [e6] at a6
  have g6 : (H.set id P ++ [O.tree [] [], .tree [] []])[H.length]? = some (.tree [] (flatC [])) := by
    rw [List.getElem?_append_right (by simp)]; simp [flatC]
  obtain ⟨β7, a7⟩ := adv_toMem a6.hok g6
  have e7 : (H.set id P ++ [O.tree [] [], .tree [] []]).set H.length (.mem false [] []) = H.set id P ++ [.mem false [] [], .tree [] []] := by
    rw [List.set_append, if_neg (by simp)]; simp
  rw [e7] at a7
  subst hP
  have g7 : (H.set id (.tree [H.length + 1, H.length] [[.v (.own H.length e1 0 0 0), .v (.own (H.length + 1) e2 0 0 0)]]) ++ [O.mem false [] [], .tree [] []])[id]? = some (.tree [H.length + 1, H.length] [[.v (.own H.length e1 0 0 0), .v (.own (H.length + 1) e2 0 0 0)]]) := by
    rw [List.getElem?_append_left (by simpa using hlt)]; exact get_set hid
  obtain ⟨β8, a8⟩ := adv_refsT (refs' := [H.length, H.length + 1]) a7.hok g7 (by simp [Ce.idsR, Ce.idsL, Ce.ids, V.ids])
  have e8 : ∀ P P' : O, (H.set id P ++ [O.mem false [] [], .tree [] []]).set id P' = H.set id P' ++ [O.mem false [] [], .tree [] []] := fun P P' => by
    rw [List.set_append, if_pos (by simpa using hlt), List.set_set]
  rw [e8] at a8
  have g8 : (H.set id (.tree [H.length, H.length + 1] [[.v (.own H.length e1 0 0 0), .v (.own (H.length + 1) e2 0 0 0)]]) ++ [O.mem false [] [], .tree [] []])[id]? = some (.tree [H.length, H.length + 1] (flatC [[.own H.length e1 0 0 0, .own (H.length + 1) e2 0 0 0]])) := by
    rw [List.getElem?_append_left (by simpa using hlt)]; exact get_set hid
  obtain ⟨β9, a9⟩ := adv_toMem a8.hok g8
  rw [e8] at a9
  exact ⟨β9, a1.trans (a2.trans (a3.trans (a4.trans (a5'.trans (a6.trans (a7.trans (a8.trans a9)))))))⟩
end
end Go.Abs
namespace Go.Abs
theorem Weak.nil2 {st : St} {id e1 e2 t : Nat} (hid : st.hp[id]? = some (.mem false [] [[nilS, nilS]])) (ht : gt st.sl t = .ptr id 1 0 0) :
    Weak st { st with hp := st.hp.set id (.mem false [st.hp.length, st.hp.length + 1] [[.own st.hp.length e1 0 0 0, .own (st.hp.length + 1) e2 0 0 0]]) ++ [.mem false [] [], .tree [] []] } := by
  refine ⟨rfl, fun k hk => ?_, by simp, fun w β F N a hR => ?_⟩
  · show (st.hp.set id _ ++ _)[k]? = _
    have hne : k ≠ id := by rintro rfl; rw [hid] at hk; simp at hk
    rw [List.getElem?_append_left (by rw [List.length_set]; exact lt_of_get hk), getElem?_set_ne' hne]; exact hk
  · have hs := hR.sl t
    rw [ht] at hs
    have hd : (cx w.heap st.hp β F).hd id = some ((β id).wt 1) := by show hdOf st.hp β id = _; unfold hdOf; rw [hid]; rfl
    have hlo : ((β id).wt 1).lo = 0 := lo_of_ptr (h := (β id).wt 1) hs hd rfl
    obtain ⟨β', adv⟩ := adv_nil2 (e1 := e1) (e2 := e2) hR.hok hid hlo
    exact ⟨β', adv, hR.adv adv⟩
end Go.Abs

namespace Go.Abs
set_option linter.unusedVariables false

/-- A child: its number, its cells' size, what it may name, its rows. -/
structure Kid where
  id : Nat
  es : Nat
  refs : List Nat
  L : List (List Ce)

def Kid.own (c : Kid) : List Ce := [.v (.own c.id c.es 0 c.L.length c.L.length)]
end Go.Abs

namespace Go.Abs
set_option linter.unusedVariables false

end Go.Abs

namespace Go.Abs
set_option linter.unusedVariables false

/-- A slice cut short lies in no more blocks. -/
theorem TR.take {c : Cx} {refs : List Nat} {S : Nat → Prop} {ad : Addr} {n cap es : Nat} {rows : List (List Ce)} (l : Nat) (h : TR c refs S (.slice (some ad) n cap) (.n es rows)) (hl : l ≤ rows.length) :
    ∃ S', (∀ k, S' k → S k) ∧ TR c refs S' (.slice (some ad) l cap) (.n es (rows.take l)) := by
  have hn : n = rows.length := by cases h <;> rfl
  subst hn
  by_cases hne : rows = []
  · subst hne
    obtain rfl : l = 0 := by simpa using hl
    exact ⟨S, fun _ h => h, by simpa using h⟩
  obtain ⟨b, o, cs, E, g, T, had, hb, hcap, hsz, hlen, hg, hr, hT, hS, hd, hd2⟩ := h.inv (.inl hne)
  have hlt : (rows.take l).length = l := by rw [List.length_take]; omega
  have hget : ∀ {i : Nat} {row : List Ce}, (rows.take l)[i]? = some row → i < l ∧ rows[i]? = some row := fun {i row} h => by
    rw [List.getElem?_take] at h
    split at h
    · next q => exact ⟨q, h⟩
    · cases h
  refine ⟨fun k => k = b ∨ ∃ i j, i < l ∧ T i j k, fun k hk => (hS k).2 (hk.imp id fun ⟨i, j, _, e⟩ => ⟨i, j, e⟩), ?_⟩
  have := TR.n (c := c) (refs := refs) (S := fun k => k = b ∨ ∃ i j, i < l ∧ T i j k) had cs E g (fun i j k => i < l ∧ T i j k) hb (by rw [hlt]; omega) hsz (fun i row h => hlen i row (hget h).2) (fun i row h j x hx => hg i row (hget h).2 j x hx)
    (fun i row h j x hx => (hr i row (hget h).2 j x hx).congr fun k => ⟨fun e => ⟨(hget h).1, e⟩, fun e => e.2⟩)
    (fun i j k h => by
      obtain ⟨row, x, h1, h2⟩ := hT i j k h.2
      exact ⟨row, x, by rw [List.getElem?_take, if_pos h.1]; exact h1, h2⟩)
    (fun k => Iff.rfl) (fun i j h => hd i j h.2) (fun i j i' j' k h h' => hd2 i j i' j' k h.2 h'.2)
  rw [hlt] at this
  exact this
end Go.Abs

namespace Go.Abs
set_option linter.unusedVariables false
section
variable {w : World} {β : Nat → Hd} {F : Nat → Prop} {H : Heap}

end
end Go.Abs

/- What the row's reading tells, as abstract values. -/
namespace Go.Abs
set_option linter.unusedVariables false

def βz : Nat → Hd := fun _ => ⟨0, 0, 0, 0, 0, false, 0, noSub⟩
def cz (w : World) : Cx := cx w.heap [] βz (fun _ => False)

theorem cz_own (w : World) (b : Nat) : ¬ (cz w).own b := by
  rintro (⟨i, e⟩ | e)
  · simp [ownsB] at e
  · exact e

theorem cz_only {w : World} {v : Value} {x : V} (h : RV (cz w) v x) : RV ((cz w).only []) v x :=
  h.mono ⟨Nat.le_refl _, fun _ _ hn => ⟨rfl, hn⟩, fun i hl => by obtain ⟨o, ho, _⟩ := hl; simp at ho, fun _ _ _ e => .inl e⟩

theorem cz_hok (w : World) : HOK w.heap [] βz (fun _ => False) :=
  ⟨fun id o h => by simp at h, fun id id' b h => by simp [ownsB] at h, fun b h => h.elim⟩

/-- What reads as a value of type t is some x's. -/
def Rd (P : Program) (t : TypeId) (n : Nat) {α : Type} (f : α → List V) (ok : α → Prop) : Prop :=
  P.cellsOf t = n ∧ ∀ (H : Type) (enc : TypeId × Value → H) (w : World) (fuel : Nat) (cs : List Value) (d : DataW H) (ps : List MemPlace), DataW.trod enc P w 0 (fun _ => true) true fuel t cs = some (d, ps) → (∀ q ∈ DataW.weights P t d, q ≤ reachBytes) →
    ∃ x, ok x ∧ (f x).length = n ∧ cs.length = n ∧ ∀ (i : Nat) (v : Value) (y : V), cs[i]? = some v → (f x)[i]? = some y → v.oneCell' = true ∧ RV (cz w) v y

section
variable {P : Program} {t : TypeId}

theorem one_get {v0 : Value} {y0 : V} {w : World} (h1 : v0.oneCell' = true) (h2 : RV (cz w) v0 y0) : ∀ (i : Nat) (v : Value) (y : V), [v0][i]? = some v → [y0][i]? = some y → v.oneCell' = true ∧ RV (cz w) v y := by
  intro i v y a b
  cases i with
  | zero => simp at a b; subst a; subst b; exact ⟨h1, h2⟩
  | succ i => simp at a

theorem Rd.int {k : IntKind} (hu : P.underlying t = some (.int k)) (hc : P.cellsOf t = 1) : Rd P t 1 (fun n : Int => [.a (.int k n)]) (fun n => (Lit.int k n).wf = true) := by
  refine ⟨hc, fun H enc w fuel cs d ps h hwt => ?_⟩
  cases fuel with
  | zero => simp [DataW.trod] at h
  | succ fuel =>
    unfold DataW.trod at h
    rw [hu] at h
    rcases cs with _ | ⟨v, _ | ⟨v2, cs⟩⟩
    · cases h
    · cases v <;> first | cases h | skip
      next k' n =>
      simp only at h
      split at h
      · next hk =>
        obtain ⟨rfl, hk⟩ := hk
        exact ⟨n, hk, rfl, rfl, one_get rfl .a⟩
      · cases h
    · simp at h

theorem Rd.bool (hu : P.underlying t = some .bool) (hc : P.cellsOf t = 1) : Rd P t 1 (fun b : Bool => [.a (.bool b)]) (fun _ => True) := by
  refine ⟨hc, fun H enc w fuel cs d ps h hwt => ?_⟩
  cases fuel with
  | zero => simp [DataW.trod] at h
  | succ fuel =>
    unfold DataW.trod at h
    rw [hu] at h
    rcases cs with _ | ⟨v, _ | ⟨v2, cs⟩⟩
    · cases h
    · cases v <;> first | cases h | skip
      next b => exact ⟨b, trivial, rfl, rfl, one_get rfl .a⟩
    · simp at h

theorem Rd.str (hu : P.underlying t = some .string) (hc : P.cellsOf t = 1) : Rd P t 1 (fun s : ByteArray => [.a (.string s)]) (fun s => s.size ≤ maxLen ∧ s.size ≤ reachBytes) := by
  refine ⟨hc, fun H enc w fuel cs d ps h hwt => ?_⟩
  cases fuel with
  | zero => simp [DataW.trod] at h
  | succ fuel =>
    unfold DataW.trod at h
    rw [hu] at h
    rcases cs with _ | ⟨v, _ | ⟨v2, cs⟩⟩
    · cases h
    · cases v <;> first | cases h | skip
      next s =>
      simp only at h
      split at h
      · next hs =>
        injection h with h
        injection h with h1 h2
        subst h1
        exact ⟨s, ⟨hs, by have := hwt s.data.toList.length (by simp [DataW.weights]); simpa using this⟩, rfl, rfl, one_get rfl .a⟩
      · cases h
    · simp at h

theorem cells?_get {w : World} {a : Addr} {n : Nat} {cs : List Value} (h : w.cells? 0 a n = some cs) : cs.length = n ∧ ∀ (i : Nat) (v : Value), cs[i]? = some v → look w.heap a.block (a.off + i) = some v ∧ (i = 0 → a.spot = none) := by
  unfold World.cells? at h
  rw [if_pos (Nat.zero_le _)] at h
  obtain ⟨h1, h2⟩ := mapM_some h
  have hl : cs.length = n := by rw [h1]; simp
  refine ⟨hl, fun i v hv => ?_⟩
  have hi : i < n := by rw [← hl]; exact lt_of_get hv
  obtain ⟨y, hy, hc⟩ := h2 i i (List.getElem?_range hi)
  rw [hv] at hy; injection hy with hy; subst hy
  have hadd : (a.add i).block = a.block ∧ ((a.add i).spot = none → (i = 0 → a.spot = none) ∧ (a.add i).off = a.off + i) := by
    unfold Addr.add
    split
    · next e => subst e; exact ⟨rfl, fun h => ⟨fun _ => h, by simp⟩⟩
    · next e => exact ⟨rfl, fun h => ⟨fun e' => (e e').elim, rfl⟩⟩
  unfold World.cell? at hc
  rw [hadd.1] at hc
  split at hc
  · next c _ _ hb =>
    split at hc
    · cases hc
    · next hs =>
      have hs : (a.add i).spot = none := by simpa using hs
      obtain ⟨g1, g2⟩ := hadd.2 hs
      rw [g2] at hc
      exact ⟨by unfold look; rw [hb]; exact hc, g1⟩
  · cases hc

theorem all_choice {α β : Type} {R : Nat → α → β → Prop} : ∀ (l : List α) (k : Nat), (∀ (i : Nat) (x : α), l[i]? = some x → ∃ y, R (k + i) x y) → ∃ r : List β, r.length = l.length ∧ ∀ (i : Nat) (x : α) (y : β), l[i]? = some x → r[i]? = some y → R (k + i) x y := by
  intro l
  induction l with
  | nil => intro k _; exact ⟨[], rfl, fun i x y h => by simp at h⟩
  | cons a l ih =>
    intro k h
    obtain ⟨y, hy⟩ := h 0 a rfl
    obtain ⟨r, h1, h2⟩ := ih (k + 1) fun i x hx => by
      obtain ⟨y, hy⟩ := h (i + 1) x hx
      exact ⟨y, by rw [show k + 1 + i = k + (i + 1) from by omega]; exact hy⟩
    refine ⟨y :: r, by simp [h1], fun i x z hx hz => ?_⟩
    cases i with
    | zero => simp at hx hz; subst hx; subst hz; exact hy
    | succ i =>
      have := h2 i x z (by simpa using hx) (by simpa using hz)
      rw [show k + (i + 1) = k + 1 + i from by omega]; exact this

theorem weightsAll_mem {H : Type} {P : Program} {e : TypeId} {l : List (DataW H)} {d : DataW H} {q : Nat} (hd : d ∈ l) (hq : q ∈ DataW.weights P e d) : q ∈ DataW.weightsAll P e l := by
  induction l with
  | nil => cases hd
  | cons a l ih =>
    simp only [DataW.weightsAll, List.mem_append]
    rcases List.mem_cons.1 hd with rfl | hd
    · exact .inl hq
    · exact .inr (ih hd)

theorem Rd.slice {e : TypeId} {n : Nat} {α : Type} {f : α → List V} {ok : α → Prop} (hu : P.underlying t = some (.slice e)) (hc : P.cellsOf t = 1) (hn : 0 < n) (he : Rd P e n f ok) :
    Rd P t 1 (fun l : List α => [.view n (l.map f)]) (fun l => l.length ≤ maxLen ∧ l.length * P.bytesOf e ≤ reachBytes ∧ ∀ x ∈ l, ok x) := by
  refine ⟨hc, fun H enc w fuel cs d ps h hwt => ?_⟩
  obtain ⟨hen, hel⟩ := he
  cases fuel with
  | zero => simp [DataW.trod] at h
  | succ fuel =>
    unfold DataW.trod at h
    rw [hu] at h
    rcases cs with _ | ⟨v, _ | ⟨v2, cs⟩⟩
    · cases h
    · cases v <;> first | cases h | skip
      next base len cap =>
      cases base with
      | none =>
        cases len <;> cases cap <;> first | cases h | skip
        exact ⟨[], ⟨Nat.zero_le _, by simp, by simp⟩, rfl, rfl, one_get rfl .nilv⟩
      | some a =>
        simp only at h
        split at h
        · next hg =>
          obtain ⟨_, hlc, hcm⟩ := hg
          simp only [Option.bind_eq_some_iff, Option.map_eq_some_iff] at h
          obtain ⟨elems, h1, rest, _, hd⟩ := h
          injection hd with hd1 hd2
          subst hd1
          simp only [DataW.weights, hu, List.mem_cons, List.mem_append] at hwt
          obtain ⟨g1, g2⟩ := mapM_some h1
          have hlen : elems.length = len := by rw [g1]; simp
          have hall : ∀ (i : Nat) (x : DataW H × List MemPlace), elems[i]? = some x → ∃ y : α, ok y ∧ (f y).length = n ∧ ∀ (j : Nat) (z : V), (f y)[j]? = some z → ∃ v, look w.heap a.block (a.off + (0 + i) * n + j) = some v ∧ (0 + i = 0 → j = 0 → a.spot = none) ∧ v.oneCell' = true ∧ RV (cz w) v z := by
            intro i x hx
            have hi : i < len := by rw [← hlen]; exact lt_of_get hx
            obtain ⟨y, hy, hc⟩ := g2 i i (List.getElem?_range hi)
            rw [hx] at hy; injection hy with hy; subst hy
            rw [Option.bind_eq_some_iff] at hc
            obtain ⟨ci, hci, htr⟩ := hc
            rw [hen] at hci
            obtain ⟨c1, c2⟩ := cells?_get hci
            obtain ⟨y, k1, k2, k3, k4⟩ := hel H enc w fuel ci _ _ htr fun q hq => hwt q (.inr (.inl (weightsAll_mem (List.mem_map_of_mem (List.mem_of_getElem? hx)) hq)))
            refine ⟨y, k1, k2, fun j z hz => ?_⟩
            have hj : j < ci.length := by rw [k3, ← k2]; exact lt_of_get hz
            have hv := List.getElem?_eq_getElem hj
            obtain ⟨m1, m2⟩ := k4 j _ z hv hz
            obtain ⟨q1, q2⟩ := c2 j _ hv
            have hadd : (a.add (i * n)).block = a.block ∧ (a.add (i * n)).off = a.off + i * n := by
              unfold Addr.add
              split
              · next e => rw [e]; exact ⟨rfl, by simp⟩
              · exact ⟨rfl, rfl⟩
            rw [hadd.1, hadd.2] at q1
            refine ⟨_, by rw [Nat.zero_add]; exact q1, fun e0 e1 => ?_, m1, m2⟩
            have := q2 e1
            rw [show i * n = 0 from by rw [show i = 0 from by omega, Nat.zero_mul]] at this
            unfold Addr.add at this
            simpa using this
          obtain ⟨xs, x1, x2⟩ := all_choice (R := fun i x y => ok y ∧ (f y).length = n ∧ ∀ (j : Nat) (z : V), (f y)[j]? = some z → ∃ v, look w.heap a.block (a.off + i * n + j) = some v ∧ (i = 0 → j = 0 → a.spot = none) ∧ v.oneCell' = true ∧ RV (cz w) v z) elems 0 hall
          have hx : ∀ (i : Nat) (y : α), xs[i]? = some y → ok y ∧ (f y).length = n ∧ ∀ (j : Nat) (z : V), (f y)[j]? = some z → ∃ v, look w.heap a.block (a.off + i * n + j) = some v ∧ (i = 0 → j = 0 → a.spot = none) ∧ v.oneCell' = true ∧ RV (cz w) v z := by
            intro i y hy
            have hi : i < elems.length := by rw [← x1]; exact lt_of_get hy
            have := x2 i _ y (List.getElem?_eq_getElem hi) hy
            rw [Nat.zero_add] at this; exact this
          refine ⟨xs, ⟨by omega, ?_, fun y hy => ?_⟩, rfl, rfl, one_get rfl ?_⟩
          · have h1 := hwt _ (.inl rfl)
            refine Nat.le_trans (Nat.mul_le_mul_right _ ?_) h1
            simp [x1]
          · obtain ⟨i, hi⟩ := List.getElem?_of_mem hy
            exact (hx i y hi).1
          · have hrow : ∀ (i : Nat) (row : List V), (xs.map f)[i]? = some row → row.length = n ∧ ∀ (j : Nat) (z : V), row[j]? = some z → ∃ v, look w.heap a.block (a.off + i * n + j) = some v ∧ (i = 0 → j = 0 → a.spot = none) ∧ v.oneCell' = true ∧ RV (cz w) v z := by
              intro i row hi
              rw [List.getElem?_map, Option.map_eq_some_iff] at hi
              obtain ⟨y, hy, rfl⟩ := hi
              exact (hx i y hy).2
            have hl2 : len = (xs.map f).length := by simp [x1, hlen]
            rw [hl2]
            refine .view (fun i j => (look w.heap a.block (a.off + i * n + j)).getD undef) (fun hne => ?_) (by rw [← hl2]; exact hlc) (fun i row hi => (hrow i row hi).1) (fun i row hi j z hz => ?_) fun i row hi j z hz => ?_
            · have h0 : ∃ row, (xs.map f)[0]? = some row := by
                cases hq : xs.map f with
                | nil => exact (hne hq).elim
                | cons r l => exact ⟨r, rfl⟩
              obtain ⟨row, h0⟩ := h0
              obtain ⟨r1, r2⟩ := hrow 0 row h0
              obtain ⟨v, l1, l2, _⟩ := r2 0 _ (List.getElem?_eq_getElem (by omega))
              refine ⟨cz_own w _, ?_, l2 rfl rfl⟩
              unfold look at l1
              split at l1
              · next hb => exact hp_lt hb
              · cases l1
            · obtain ⟨v, l1, _, l3, _⟩ := (hrow i row hi).2 j z hz
              refine ⟨by show look w.heap _ _ = _; rw [l1]; rfl, by rw [l1]; exact l3⟩
            · obtain ⟨v, l1, _, _, l4⟩ := (hrow i row hi).2 j z hz
              rw [l1]; exact cz_only l4
        · cases h
    · simp at h

end
end Go.Abs

/- What the row's reading tells: structs, arguments. -/
namespace Go.Abs
set_option linter.unusedVariables false

/-- The same of a struct's fields from cell k on. -/
def RdF (P : Program) (fs : List Field) (k : Nat) (n : Nat) {α : Type} (f : α → List V) (ok : α → Prop) : Prop :=
  ∀ (H : Type) (enc : TypeId × Value → H) (w : World) (fuel : Nat) (cs : List Value) (xs : List (DataW H × List MemPlace)), fs.mapM (fun fd => DataW.trod enc P w 0 (fun _ => true) true fuel fd.type ((cs.drop fd.offset).take (P.cellsOf fd.type))) = some xs → (∀ q ∈ DataW.weightsEach P (fs.map (·.type)) (xs.map (·.1)), q ≤ reachBytes) →
    ∃ x, ok x ∧ (f x).length = n ∧ ∀ (i : Nat) (v : Value) (y : V), cs[k + i]? = some v → (f x)[i]? = some y → v.oneCell' = true ∧ RV (cz w) v y

theorem RdF.nil {P : Program} {k : Nat} : RdF P [] k 0 (fun _ : Unit => []) (fun _ => True) :=
  fun H enc w fuel cs xs h _ => ⟨(), trivial, rfl, fun i v y _ h => by simp at h⟩

theorem RdF.cons {P : Program} {fd : Field} {fs : List Field} {k n m : Nat} {α β : Type} {f : α → List V} {ok : α → Prop} {g : β → List V} {ok' : β → Prop} (ho : fd.offset = k) (h1 : Rd P fd.type n f ok) (h2 : RdF P fs (k + n) m g ok') :
    RdF P (fd :: fs) k (n + m) (fun p : α × β => f p.1 ++ g p.2) (fun p => ok p.1 ∧ ok' p.2) := by
  intro H enc w fuel cs xs h hwt
  rw [List.mapM_cons] at h
  simp only [bind, Option.bind_eq_some_iff, pure, Option.some.injEq] at h
  obtain ⟨d, hd, xs', hxs, rfl⟩ := h
  simp only [List.map_cons, DataW.weightsEach, List.mem_append] at hwt
  obtain ⟨x, a1, a2, a3, a4⟩ := h1.2 H enc w fuel _ _ _ hd fun q hq => hwt q (.inl hq)
  obtain ⟨y, b1, b2, b3⟩ := h2 H enc w fuel cs xs' hxs fun q hq => hwt q (.inr hq)
  refine ⟨(x, y), ⟨a1, b1⟩, by simp [a2, b2], fun i v z hv hz => ?_⟩
  rw [List.getElem?_append] at hz
  split at hz
  · next hi =>
    refine a4 i v z ?_ hz
    rw [List.getElem?_take, if_pos (by rw [h1.1, ← a2]; exact hi), List.getElem?_drop, ho]
    exact hv
  · next hi =>
    refine b3 (i - (f x).length) v z ?_ hz
    have hi : ¬ i < (f x).length := hi
    rw [← hv]; congr 1; omega

theorem Rd.struct {P : Program} {t : TypeId} {fs : Array Field} {n : Nat} {α : Type} {f : α → List V} {ok : α → Prop} (hu : P.underlying t = some (.struct fs)) (hc : P.cellsOf t = n) (hf : RdF P fs.toList 0 n f ok) : Rd P t n f ok := by
  refine ⟨hc, fun H enc w fuel cs d ps h hwt => ?_⟩
  cases fuel with
  | zero => simp [DataW.trod] at h
  | succ fuel =>
    have key : cs.length = P.cellsOf t ∧ ∃ xs, d = .agg (xs.map (·.1)) ∧ fs.toList.mapM (fun fd => DataW.trod enc P w 0 (fun _ => true) true fuel fd.type ((cs.drop fd.offset).take (P.cellsOf fd.type))) = some xs := by
      unfold DataW.trod at h
      rw [hu] at h
      simp only at h
      split at h
      · next hl =>
        rw [Option.map_eq_some_iff] at h
        obtain ⟨xs, h1, h2⟩ := h
        injection h2 with h2 h3
        exact ⟨hl, xs, h2.symm, h1⟩
      · cases h
    obtain ⟨hl, xs, rfl, hx⟩ := key
    obtain ⟨x, a1, a2, a3⟩ := hf H enc w fuel cs xs hx fun q hq => hwt q (by simp only [DataW.weights, hu]; exact hq)
    exact ⟨x, a1, a2, by rw [hl, hc], fun i v y hv hy => a3 i v y (by rw [Nat.zero_add]; exact hv) hy⟩

theorem Rd.map {P : Program} {t : TypeId} {n : Nat} {α β : Type} {f : α → List V} {ok : α → Prop} {g : β → List V} {ok' : β → Prop} (h : Rd P t n f ok) (hm : ∀ x, ok x → ∃ y, ok' y ∧ g y = f x) : Rd P t n g ok' := by
  refine ⟨h.1, fun H enc w fuel cs d ps ht hwt => ?_⟩
  obtain ⟨x, a1, a2, a3, a4⟩ := h.2 H enc w fuel cs d ps ht hwt
  obtain ⟨y, b1, b2⟩ := hm x a1
  exact ⟨y, b1, by rw [b2]; exact a2, a3, by rw [b2]; exact a4⟩

/-- An argument of one cell. -/
theorem Rd.arg1 {P : Program} {t : TypeId} {α : Type} {f : α → V} {ok : α → Prop} (h : Rd P t 1 (fun x => [f x]) ok) {H : Type} {enc : TypeId × Value → H} {w : World} {v : Value} {d : DataW H} {ps : List MemPlace} (ht : DataW.Trod enc P w 0 (fun _ => true) true t v d ps)
    (hwt : ∀ q ∈ DataW.weights P t d, q ≤ reachBytes) (hone : v.oneCell' = true) : ∃ x, ok x ∧ RV (cz w) v (f x) := by
  obtain ⟨fuel, ht⟩ := ht
  obtain ⟨x, a1, a2, a3, a4⟩ := h.2 H enc w fuel _ d ps ht hwt
  refine ⟨x, a1, (a4 0 v (f x) ?_ rfl).2⟩
  rw [cells_one hone]; rfl

theorem weights_cons {H : Type} {P : Program} {t : TypeId} {ts : List TypeId} {d : DataW H} {ds : List (DataW H)} (h : (DataW.weightsEach P (t :: ts) (d :: ds)).all (· ≤ reachBytes) = true) :
    (∀ q ∈ DataW.weights P t d, q ≤ reachBytes) ∧ (DataW.weightsEach P ts ds).all (· ≤ reachBytes) = true := by
  simp only [DataW.weightsEach, List.all_append, Bool.and_eq_true] at h
  exact ⟨fun q hq => by simpa using List.all_eq_true.1 h.1 q hq, h.2⟩

/-- A law's call. -/
theorem DC.law {P : Program} {f : FuncId} {xs : List V} (h : DC P f xs [] fun r _ => r = .bool true) {W : World} {args : Array Value} (hr : RVs (cz W) args xs) :
    Calls P f args W fun e W' => e = .returned (.bool true) ∧ RowKit.Below W.heap.size W W' := by
  refine (h W βz (fun _ => False) args (cz_hok W) hr).mono fun e W' hres => ?_
  obtain ⟨r, x, H', β', rfl, adv, hx, rfl⟩ := hres
  rw [hx.of_a]
  refine ⟨rfl, adv.ext.os, adv.ext.tape, adv.ext.output, adv.ext.size, fun k hk => adv.ext.block k hk fun ⟨i, e⟩ => ?_⟩
  simp [ownsB] at e

theorem RVs.cons {c : Cx} {v : Value} {x : V} {vs : Array Value} {xs : List V} (h : RV c v x) (hs : RVs c vs xs) : RVs c (#[v] ++ vs) (x :: xs) := by
  refine ⟨by simp [hs.1]; omega, fun i u y h1 h2 => ?_⟩
  cases i with
  | zero => simp [Array.getElem?_append] at h1 h2; subst h1; subst h2; exact h
  | succ i =>
    rw [Array.getElem?_append, if_neg (by simp)] at h1
    exact hs.2 i u y (by simpa using h1) (by simpa using h2)

end Go.Abs

/- The problems, as Lean data. -/
namespace Go.Abs
attribute [local simp] I.vc sub merge place

structure Var where
  name : ByteArray
  lo : Int
  hi : Int
structure Term where
  c : Int
  x : Int
structure Con where
  kind : Int
  op : Int
  terms : List Term
  k : Int
  v : Int
  x : Int
  y : Int
  xs : List Int
  table : List Int
  rows : List (List Int)
structure Model where
  vars : List Var
  cons : List Con
  hasGoal : Bool
  goal : List Term

abbrev V.i (n : Int) : V := .a (.int .i64 n)
def vInts (l : List Int) : V := .view 1 (l.map fun n => [V.i n])
def vIntss (l : List (List Int)) : V := .view 1 (l.map fun r => [vInts r])
def Term.cells (t : Term) : List V := [V.i t.c, V.i t.x]
def vTerms (l : List Term) : V := .view 2 (l.map Term.cells)
def Var.cells (v : Var) : List V := [.str v.name, V.i v.lo, V.i v.hi]
def vVars (l : List Var) : V := .view 3 (l.map Var.cells)
def Con.cells (c : Con) : List V := [V.i c.kind, V.i c.op, vTerms c.terms, V.i c.k, V.i c.v, V.i c.x, V.i c.y, vInts c.xs, vInts c.table, vIntss c.rows]
def vCons (l : List Con) : V := .view 10 (l.map Con.cells)
def Model.cells (m : Model) : List V := [vVars m.vars, vCons m.cons, .bool m.hasGoal, vTerms m.goal]

def I64 (n : Int) : Prop := -9223372036854775808 ≤ n ∧ n ≤ 9223372036854775807
def okInts (l : List Int) : Prop := l.length ≤ maxLen ∧ ∀ n ∈ l, I64 n
def okTerm (t : Term) : Prop := I64 t.c ∧ I64 t.x
def okVar (v : Var) : Prop := v.name.size ≤ maxLen ∧ I64 v.lo ∧ I64 v.hi
def okTerms (l : List Term) : Prop := l.length ≤ maxLen ∧ ∀ t ∈ l, okTerm t
def okCon (c : Con) : Prop := I64 c.kind ∧ I64 c.op ∧ okTerms c.terms ∧ I64 c.k ∧ I64 c.v ∧ I64 c.x ∧ I64 c.y ∧ okInts c.xs ∧ okInts c.table ∧ c.rows.length ≤ maxLen ∧ ∀ r ∈ c.rows, okInts r
def okModel (m : Model) : Prop := (m.vars.length ≤ maxLen ∧ ∀ v ∈ m.vars, okVar v) ∧ (m.cons.length ≤ maxLen ∧ ∀ c ∈ m.cons, okCon c) ∧ okTerms m.goal

/-- The types that the readings below speak of. -/
structure MTypes (P : Program) (tInt tBool tStr tInts tIntss tTerm tTerms tVar tVars tCon tCons tModel : TypeId) : Prop where
  bytes : 8 ≤ P.bytesOf tInt ∧ 8 ≤ P.bytesOf tInts ∧ 8 ≤ P.bytesOf tTerm ∧ 8 ≤ P.bytesOf tVar ∧ 8 ≤ P.bytesOf tCon
  int : P.underlying tInt = some (.int .i64) ∧ P.cellsOf tInt = 1
  bool : P.underlying tBool = some .bool ∧ P.cellsOf tBool = 1
  str : P.underlying tStr = some .string ∧ P.cellsOf tStr = 1
  ints : P.underlying tInts = some (.slice tInt) ∧ P.cellsOf tInts = 1
  intss : P.underlying tIntss = some (.slice tInts) ∧ P.cellsOf tIntss = 1
  term : ∃ fs, P.underlying tTerm = some (.struct fs) ∧ P.cellsOf tTerm = 2 ∧ fs.toList.map (fun f => (f.type, f.offset)) = [(tInt, 0), (tInt, 1)]
  terms : P.underlying tTerms = some (.slice tTerm) ∧ P.cellsOf tTerms = 1
  var : ∃ fs, P.underlying tVar = some (.struct fs) ∧ P.cellsOf tVar = 3 ∧ fs.toList.map (fun f => (f.type, f.offset)) = [(tStr, 0), (tInt, 1), (tInt, 2)]
  vars : P.underlying tVars = some (.slice tVar) ∧ P.cellsOf tVars = 1
  con : ∃ fs, P.underlying tCon = some (.struct fs) ∧ P.cellsOf tCon = 10 ∧ fs.toList.map (fun f => (f.type, f.offset)) = [(tInt, 0), (tInt, 1), (tTerms, 2), (tInt, 3), (tInt, 4), (tInt, 5), (tInt, 6), (tInts, 7), (tInts, 8), (tIntss, 9)]
  cons : P.underlying tCons = some (.slice tCon) ∧ P.cellsOf tCons = 1
  model : ∃ fs, P.underlying tModel = some (.struct fs) ∧ P.cellsOf tModel = 4 ∧ fs.toList.map (fun f => (f.type, f.offset)) = [(tVars, 0), (tCons, 1), (tBool, 2), (tTerms, 3)]

/-- So long is what is read, at most. -/
def maxS : Nat := 17592186044416
def zInts (l : List Int) : Prop := okInts l ∧ l.length ≤ maxS
theorem maxS_of {n b : Nat} (h : n * b ≤ reachBytes) (hb : 8 ≤ b) : n ≤ maxS := by
  have h1 : n * 8 ≤ n * b := Nat.mul_le_mul_left _ hb
  unfold reachBytes at h
  unfold maxS
  omega

section
variable {P : Program} {tInt tBool tStr tInts tIntss tTerm tTerms tVar tVars tCon tCons tModel : TypeId} (M : MTypes P tInt tBool tStr tInts tIntss tTerm tTerms tVar tVars tCon tCons tModel)
include M

theorem MTypes.rdInt : Rd P tInt 1 (fun n : Int => [V.i n]) I64 :=
  (Rd.int M.int.1 M.int.2).map fun n h => ⟨n, by
    have : (decide (IntKind.i64.min ≤ n) && decide (n ≤ IntKind.i64.max)) = true := h
    simp only [Bool.and_eq_true, decide_eq_true_eq] at this
    exact ⟨this.1, this.2⟩, rfl⟩

theorem MTypes.rdInts : Rd P tInts 1 (fun l : List Int => [vInts l]) zInts :=
  (Rd.slice M.ints.1 M.ints.2 (by omega) M.rdInt).map fun l h => ⟨l, ⟨⟨h.1, h.2.2⟩, maxS_of h.2.1 M.bytes.1⟩, rfl⟩

end
end Go.Abs


/- What the functions of the package model compute, as Lean functions. -/
namespace Go.Abs

structure Needs where
  terms : Bool
  xs : Bool
  table : Bool
  rows : Bool
  x : Bool
  y : Bool
  k : Bool
  op : Bool
  v : Bool
  deriving DecidableEq

/-- A kind's needs, as they lie in memory. -/
def Needs.cells (n : Needs) (f : FuncId) : List V := [.bool n.terms, .bool n.xs, .bool n.table, .bool n.rows, .bool n.x, .bool n.y, .bool n.k, .bool n.op, .bool n.v, .fn (.func f) [] []]

def needs (k : Int) : Option Needs :=
  if k = 1 then some ⟨true, false, false, false, false, false, true, true, false⟩
  else if k = 2 then some ⟨false, false, false, false, true, true, true, false, false⟩
  else if k = 3 then some ⟨false, true, false, false, false, false, false, false, false⟩
  else if k = 4 then some ⟨false, false, true, false, true, true, false, false, false⟩
  else if k = 5 then some ⟨false, true, false, false, false, true, false, false, false⟩
  else if k = 6 then some ⟨false, true, false, false, false, true, false, false, false⟩
  else if k = 7 then some ⟨true, false, false, false, true, false, true, false, false⟩
  else if k = 8 then some ⟨false, true, false, true, false, false, false, false, false⟩
  else if k = 9 then some ⟨false, true, false, false, false, false, true, true, true⟩
  else none

def withinB (n most : Int) : Bool := decide (-most ≤ n) && decide (n ≤ most)
def greatB (l : List Int) : Bool := l.any fun t => !withinB t 1000000000
def countsB (there : Bool) (n : Nat) : Bool := !there || (decide (1 ≤ n) && decide (n ≤ 64))
def badVarB (vars : Int) (l : List Term) : Bool := l.any fun t => decide (t.x < 0) || decide (vars ≤ t.x)
def badCoefB (l : List Term) : Bool := l.any fun t => decide (t.c = 0) || !withinB t.c 1000000
def noB (vars x : Int) : Bool := decide (x < 0) || decide (vars ≤ x)
def fieldB (c : Con) (n : Needs) : Bool :=
  (!n.op && decide (c.op ≠ 0)) || (!n.k && decide (c.k ≠ 0)) || (!n.v && decide (c.v ≠ 0)) || (!n.x && decide (c.x ≠ 0)) || (!n.y && decide (c.y ≠ 0)) ||
  (!n.terms && decide (0 < c.terms.length)) || (!n.xs && decide (0 < c.xs.length)) || (!n.table && decide (0 < c.table.length)) || (!n.rows && decide (0 < c.rows.length))
def wideB (c : Con) (n : Needs) : Bool :=
  n.rows && (decide (8 < c.xs.length) || !countsB true c.rows.length || c.rows.any fun r => decide (r.length ≠ c.xs.length))
def conN (c : Con) (vars : Int) (n : Needs) : Int :=
  if n.op && (decide (c.op < 1) || decide (3 < c.op)) then 43
  else if fieldB c n then 48
  else if !countsB n.terms c.terms.length || !countsB n.xs c.xs.length || !countsB n.table c.table.length || wideB c n then 47
  else if badVarB vars c.terms || (n.x && noB vars c.x) || (n.y && noB vars c.y) || c.xs.any (noB vars) then 44
  else if badCoefB c.terms then 45
  else if !withinB c.k 1000000000 || !withinB c.v 1000000000 || greatB c.table || c.rows.any greatB then 46
  else 0
def conB (c : Con) (vars : Int) : Int :=
  match needs c.kind with
  | none => 43
  | some n => conN c vars n

def letterB (r : Nat) : Bool := (decide (97 ≤ r) && decide (r ≤ 122)) || (decide (65 ≤ r) && decide (r ≤ 90)) || decide (r = 95)
def nameFrom (s : ByteArray) : Nat → Nat → Bool
  | 0, _ => true
  | f + 1, pos => if pos < s.size then
      (if !letterB (Utf8.decode s pos).1 && (decide (pos = 0) || decide ((Utf8.decode s pos).1 < 48) || decide (57 < (Utf8.decode s pos).1)) then false else nameFrom s f (pos + (Utf8.decode s pos).2))
    else true
def nameB (s : ByteArray) : Bool := nameFrom s (s.size + 1) 0 && decide (1 ≤ s.size) && decide (s.size ≤ 16)

def varB (l : List Var) (i : Nat) (v : Var) : Int :=
  if !nameB v.name || (l.take i).any fun w => decide (w.name = v.name) then 41
  else if !withinB v.lo 1000000000 || !withinB v.hi 1000000000 || decide (v.hi < v.lo) || decide (64 ≤ v.hi - v.lo) then 42
  else 0

def goalB (m : Model) : Int :=
  if !m.hasGoal && decide (0 < m.goal.length) then 48
  else if !countsB m.hasGoal m.goal.length then 47
  else if badVarB m.vars.length m.goal then 44
  else if badCoefB m.goal then 45
  else 0

/-- The first place of which something else than 0 is told. -/
def firstBad {α : Type} (f : Nat → α → Int) : Nat → List α → Option (Nat × Int)
  | _, [] => none
  | i, x :: l => if f i x = 0 then firstBad f (i + 1) l else some (i, f i x)

def checkB (m : Model) : Int × Int :=
  if m.vars.length = 0 ∨ 32 < m.vars.length then (0, 40)
  else match firstBad (varB m.vars) 0 m.vars with
    | some (i, e) => ((i : Int), e)
    | none => if 64 < m.cons.length then ((m.vars.length : Int), 49)
      else match firstBad (fun _ c => conB c m.vars.length) 0 m.cons with
        | some (i, e) => ((m.vars.length : Int) + i, e)
        | none => if goalB m = 0 then (0, 0) else ((m.vars.length : Int) + m.cons.length, goalB m)

def rightB (m : Model) : Bool := decide ((checkB m).2 = 0)

end Go.Abs

/- Worth, Floor, Ceil: plain laws. -/
namespace Go.Abs

theorem firstBad_none {α : Type} {f : Nat → α → Int} : ∀ {l : List α} {i : Nat}, firstBad f i l = none → ∀ (j : Nat) (x : α), l[j]? = some x → f (i + j) x = 0 := by
  intro l
  induction l with
  | nil => intro i _ j x h; simp at h
  | cons y l ih =>
    intro i h j x hj
    simp only [firstBad] at h
    split at h
    · next h0 =>
      cases j with
      | zero => simp at hj; subst hj; simpa using h0
      | succ j =>
        have := ih h j x (by simpa using hj)
        rw [← this]; congr 1; omega
    · cases h

theorem firstBad_some {α : Type} {f : Nat → α → Int} : ∀ {l : List α} {i : Nat} {p : Nat × Int}, firstBad f i l = some p → p.2 ≠ 0 := by
  intro l
  induction l with
  | nil => intro i p h; simp [firstBad] at h
  | cons y l ih =>
    intro i p h
    simp only [firstBad] at h
    split at h
    · exact ih h
    · next h0 => cases h; exact h0

structure Right (m : Model) : Prop where
  nv : 1 ≤ m.vars.length ∧ m.vars.length ≤ 32
  nc : m.cons.length ≤ 64
  var : ∀ (i : Nat) (v : Var), m.vars[i]? = some v → varB m.vars i v = 0
  con : ∀ c ∈ m.cons, conB c m.vars.length = 0
  goal : goalB m = 0

theorem right_iff {m : Model} : rightB m = true ↔ Right m := by
  unfold rightB checkB
  simp only [decide_eq_true_eq]
  constructor
  · intro h
    split at h
    · simp at h
    · next h1 =>
      split at h
      · next p i e hp => exact absurd h (firstBad_some hp)
      · next hv =>
        split at h
        · simp at h
        · next h2 =>
          split at h
          · next p i e hp => exact absurd h (firstBad_some hp)
          · next hc =>
            split at h
            · next hg =>
              refine ⟨by omega, by omega, fun i v hi => ?_, fun c hc' => ?_, hg⟩
              · have := firstBad_none hv i v hi; simpa using this
              · obtain ⟨j, hj⟩ := List.getElem?_of_mem hc'
                have := firstBad_none hc j c hj; simpa using this
            · next hg => exact absurd h hg
  · intro h
    rw [if_neg (by have := h.nv; omega)]
    have key : ∀ {α : Type} (f : Nat → α → Int) (l : List α) (i : Nat), (∀ (j : Nat) (x : α), l[j]? = some x → f (i + j) x = 0) → firstBad f i l = none := by
      intro α f l
      induction l with
      | nil => intro i _; rfl
      | cons x l ih =>
        intro i h
        simp only [firstBad]
        rw [if_pos (by simpa using h 0 x rfl)]
        refine ih _ fun j y hj => ?_
        have := h (j + 1) y (by simpa using hj)
        rw [← this]; congr 1; omega
    rw [key _ m.vars 0 fun j x hj => by rw [Nat.zero_add]; exact h.var j x hj]
    simp only
    rw [if_neg (by have := h.nc; omega), key _ m.cons 0 fun j x hj => h.con x (List.mem_of_getElem? hj)]
    simp [h.goal]

structure VarOk (v : Var) : Prop where
  lo : -1000000000 ≤ v.lo ∧ v.lo ≤ 1000000000
  hi : -1000000000 ≤ v.hi ∧ v.hi ≤ 1000000000
  le : v.lo ≤ v.hi
  dom : v.hi - v.lo < 64

theorem VarOk.of {l : List Var} {i : Nat} {v : Var} (h : varB l i v = 0) : VarOk v := by
  unfold varB at h
  split at h
  · cases h
  · split at h
    · cases h
    · next h2 =>
      simp only [withinB, Bool.or_eq_true, Bool.not_eq_true', Bool.and_eq_false_iff, decide_eq_true_eq, decide_eq_false_iff_not, not_or, Bool.not_eq_false] at h2
      constructor <;> omega

structure TermOk (vars : Nat) (t : Term) : Prop where
  x : 0 ≤ t.x ∧ t.x < vars
  c : -1000000 ≤ t.c ∧ t.c ≤ 1000000 ∧ t.c ≠ 0

theorem TermOk.of {vars : Nat} {l : List Term} (h1 : badVarB vars l = false) (h2 : badCoefB l = false) : ∀ t ∈ l, TermOk vars t := by
  intro t ht
  unfold badVarB at h1
  unfold badCoefB at h2
  rw [List.any_eq_false] at h1 h2
  have h1 := h1 t ht
  have h2 := h2 t ht
  simp only [withinB, Bool.or_eq_true, Bool.not_eq_true', Bool.and_eq_false_iff, decide_eq_true_eq, decide_eq_false_iff_not, not_or, Bool.not_eq_false] at h1 h2
  constructor <;> omega

theorem Right.terms {m : Model} (h : Right m) : (∀ t ∈ m.goal, TermOk m.vars.length t) ∧ m.goal.length ≤ 64 := by
  have hg := h.goal
  unfold goalB at hg
  split at hg
  · cases hg
  · next h1 =>
    split at hg
    · cases hg
    · next h2 =>
      split at hg
      · cases hg
      · next h3 =>
        split at hg
        · cases hg
        · next h4 =>
          refine ⟨TermOk.of (by simpa using h3) (by simpa using h4), ?_⟩
          simp [countsB] at h1 h2
          cases hh : m.hasGoal
          · simp [h1 hh]
          · have := h2 hh
            omega

/-- Values within the bounds. -/
def Within (m : Model) (l : List Int) : Prop := l.length = m.vars.length ∧ ∀ (i : Nat) (v : Var), m.vars[i]? = some v → v.lo ≤ l.getD i 0 ∧ l.getD i 0 ≤ v.hi

theorem Within.great {m : Model} (h : Right m) {l : List Int} (hw : Within m l) : greatB l = false := by
  unfold greatB
  rw [List.any_eq_false]
  intro x hx
  obtain ⟨i, hi⟩ := List.getElem?_of_mem hx
  have hlt : i < m.vars.length := by rw [← hw.1]; exact (List.getElem?_eq_some_iff.1 hi).1
  have hv := List.getElem?_eq_getElem hlt
  have h1 := hw.2 i _ hv
  have h2 := VarOk.of (h.var i _ hv)
  have h3 : l.getD i 0 = x := by simp [List.getD, hi]
  rw [h3] at h1
  have := h2.lo; have := h2.hi
  simp [withinB]
  omega

end Go.Abs

namespace Go.Abs.G
set_option linter.unusedVariables false
attribute [local simp] I.vc sub merge place

theorem wrap32 {n : Int} (h0 : 0 ≤ n) (h1 : n < 4294967296) : IntKind.u32.wrap n = n := by
  simp [IntKind.wrap, IntKind.bits, IntKind.signed]
  omega
theorem bits32 : IntKind.u32.bits = 32 := rfl
theorem fdivN (a j : Nat) : ((a : Int).fdiv (2 ^ j)) = ((a / 2 ^ j : Nat) : Int) := by
  rw [Int.fdiv_eq_ediv_of_nonneg _ (Int.pow_nonneg (by decide))]
  simp

theorem bit32 {a j : Nat} (ha : a < 4294967296) (hj : j < 32) :
    (IntKind.u32.wrap ↑(BitVec.ofInt 32 ((a : Int).fdiv (2 ^ min j 32)) &&& 1#32).toNat == 1) = a.testBit j := by
  rw [Nat.min_eq_left (by omega), fdivN]
  have h1 : a / 2 ^ j < 4294967296 := Nat.lt_of_le_of_lt (Nat.div_le_self _ _) ha
  rw [Nat.testBit_eq_decide_div_mod_eq]
  generalize a / 2 ^ j = q at *
  have h2 : (BitVec.ofInt 32 (q : Int) &&& 1#32).toNat = q % 2 := by
    rw [BitVec.toNat_and, BitVec.ofInt_natCast, BitVec.toNat_ofNat, BitVec.toNat_ofNat, Nat.mod_eq_of_lt (by omega : q < 2 ^ 32)]
    exact Nat.and_one_is_mod q
  rw [h2, wrap32 (by omega) (by omega)]
  rcases Nat.mod_two_eq_zero_or_one q with h | h <;> rw [h] <;> rfl

theorem one_shl : ∀ j, j < 32 → BitVec.ofInt 32 (IntKind.u32.wrap (2 ^ min j 32)) = 1#32 <<< j := by decide +kernel

def clr (a j : Nat) : Nat := (BitVec.ofNat 32 a &&& ~~~(1#32 <<< j)).toNat
def sett (a j : Nat) : Nat := (BitVec.ofNat 32 a ||| (1#32 <<< j)).toNat

theorem clr_lt (a j : Nat) : clr a j < 4294967296 := BitVec.isLt _
theorem sett_lt (a j : Nat) : sett a j < 4294967296 := BitVec.isLt _

theorem sett32 {a j : Nat} (hj : j < 32) : IntKind.u32.wrap ↑(BitVec.ofNat 32 a ||| BitVec.ofInt 32 (IntKind.u32.wrap (2 ^ min j 32))).toNat = (sett a j : Int) := by
  rw [one_shl j hj]
  exact wrap32 (Int.natCast_nonneg _) (by have := sett_lt a j; unfold sett at this; omega)

theorem shl_bit (j i : Nat) (hj : j < 32) : (1#32 <<< j).getLsbD i = decide (i = j) := by
  rw [BitVec.getLsbD_shiftLeft]
  by_cases h : i = j
  · subst h; simp [hj]
  · by_cases h2 : i < j
    · simp [h2, h]
    · have : i - j ≠ 0 := by omega
      simp [h, BitVec.getLsbD_one, this]
theorem clr_bit {a j : Nat} (ha : a < 4294967296) (hj : j < 32) (i : Nat) : (clr a j).testBit i = (a.testBit i && !decide (i = j)) := by
  unfold clr
  rw [BitVec.testBit_toNat, BitVec.getLsbD_and, BitVec.getLsbD_not, shl_bit j i hj, BitVec.getLsbD_ofNat]
  by_cases h : i < 32
  · simp [h]
  · have : a.testBit i = false := Nat.testBit_lt_two_pow (Nat.lt_of_lt_of_le (show a < 2 ^ 32 from ha) (Nat.pow_le_pow_right (by omega) (by omega : 32 ≤ i)))
    simp [h, this]
theorem sett_bit {a j : Nat} (ha : a < 4294967296) (hj : j < 32) (i : Nat) : (sett a j).testBit i = (a.testBit i || decide (i = j)) := by
  unfold sett
  rw [BitVec.testBit_toNat, BitVec.getLsbD_or, shl_bit j i hj, BitVec.getLsbD_ofNat]
  by_cases h : i < 32
  · simp [h]
  · have : a.testBit i = false := Nat.testBit_lt_two_pow (Nat.lt_of_lt_of_le (show a < 2 ^ 32 from ha) (Nat.pow_le_pow_right (by omega) (by omega : 32 ≤ i)))
    simp [h, this]
end Go.Abs.G


namespace Go.Abs.G
open Go.Proofs
set_option linter.unusedVariables false
set_option linter.unusedSimpArgs false
attribute [local simp] I.vc sub merge place

structure Dom where
  from' : Int
  width : Nat
  a : Nat
  b : Nat

abbrev V.w (n : Nat) : V := .a (.int .u32 n)
def Dom.row (d : Dom) : List V := [V.i d.from', V.i d.width, V.w d.a, V.w d.b]
def Dom.has (d : Dom) (i : Nat) : Bool := if i < 32 then d.a.testBit i else d.b.testBit (i - 32)
structure Dom.ok (d : Dom) : Prop where
  f : -1000000000 ≤ d.from' ∧ d.from' ≤ 1000000000
  w : d.width ≤ 64
  a : d.a < 4294967296
  b : d.b < 4294967296

theorem has_spec {rows : List (List V)} {d : Dom} {x k : Nat} (hx : rows[x]? = some d.row) (hd : d.ok) (hk : k < 64) :
    DC Try.prog dom_set_has.id [.ptr 0 rows.length x 2, V.i k] [.mem false [] rows] (fun r H => r = .bool (d.has k) ∧ H = [.mem false [] rows]) := by
  obtain ⟨hlt, he⟩ := List.getElem?_eq_some_iff.1 hx
  refine DC.of dom_set_has.ok (by simp) ?_
  have ht : ((k : Int).tmod 32) = ((k % 32 : Nat) : Int) := by rw [Int.tmod_eq_emod_of_nonneg (by omega)]; rfl
  have hm : ((k : Int) % 32).toNat = k % 32 := by omega
  have hp : 0 ≤ (k : Int) % 32 := by omega
  by_cases h : k < 32
  · have h1 : IntKind.i64.wrap ((k : Int) / 32) = 0 := by rw [wrap64] <;> omega
    have h2 : k % 32 = k := by omega
    simp [ht, hm, hp, h2, dom_set_has.ir, dom_set_has.rs, h1, hx, he, hlt, Dom.row, Dom.has, h, bits32]
    exact bit32 hd.a h
  · have h1 : IntKind.i64.wrap ((k : Int) / 32) = 1 := by rw [wrap64] <;> omega
    have h2 : k % 32 = k - 32 := by omega
    have h3 : k - 32 < 32 := by omega
    simp [ht, hm, hp, h2, dom_set_has.ir, dom_set_has.rs, h1, hx, he, hlt, Dom.row, Dom.has, h, bits32]
    exact bit32 hd.b h3
end Go.Abs.G


namespace Go.Abs.G
open Go.Proofs
set_option linter.unusedVariables false
attribute [local simp] I.vc sub merge place
def tab : ByteArray := { data := #[0, 1, 1, 2, 1, 2, 2, 3, 1, 2, 2, 3, 2, 3, 3, 4, 1, 2, 2, 3, 2, 3, 3, 4, 2, 3, 3, 4, 3, 4, 4, 5, 1, 2, 2, 3, 2, 3, 3, 4, 2, 3, 3, 4, 3, 4, 4, 5, 2, 3, 3, 4, 3, 4, 4, 5, 3, 4, 4, 5, 4, 5, 5, 6, 1, 2, 2, 3, 2, 3, 3, 4, 2, 3, 3, 4, 3, 4, 4, 5, 2, 3, 3, 4, 3, 4, 4, 5, 3, 4, 4, 5, 4, 5, 5, 6, 2, 3, 3, 4, 3, 4, 4, 5, 3, 4, 4, 5, 4, 5, 5, 6, 3, 4, 4, 5, 4, 5, 5, 6, 4, 5, 5, 6, 5, 6, 6, 7, 1, 2, 2, 3, 2, 3, 3, 4, 2, 3, 3, 4, 3, 4, 4, 5, 2, 3, 3, 4, 3, 4, 4, 5, 3, 4, 4, 5, 4, 5, 5, 6, 2, 3, 3, 4, 3, 4, 4, 5, 3, 4, 4, 5, 4, 5, 5, 6, 3, 4, 4, 5, 4, 5, 5, 6, 4, 5, 5, 6, 5, 6, 6, 7, 2, 3, 3, 4, 3, 4, 4, 5, 3, 4, 4, 5, 4, 5, 5, 6, 3, 4, 4, 5, 4, 5, 5, 6, 4, 5, 5, 6, 5, 6, 6, 7, 3, 4, 4, 5, 4, 5, 5, 6, 4, 5, 5, 6, 5, 6, 6, 7, 4, 5, 5, 6, 5, 6, 6, 7, 5, 6, 6, 7, 6, 7, 7, 8] }
def onesIr (T : ByteArray) : C := .seq (.reg 0 [.o 0 (.lt (some 2) (.mov (.const (.int .i64 0)))),
    .g (.keep [0])]) (.seq (.reg 0 [.o 0 (.lt (some 3) (.mov (.tmp 0))),
    .o 1 (.lt (some 4) (.bin .shr (.tmp 3) (.const (.int .u64 24)))),
    .o 2 (.lt (some 5) (.ixStr (.const (.string T)) (.tmp 4))),
    .o 3 (.lt (some 6) (.mov (.tmp 0))),
    .o 4 (.lt (some 7) (.bin .shr (.tmp 6) (.const (.int .u64 16)))),
    .o 5 (.lt (some 8) (.bin .and (.tmp 7) (.const (.int .u32 255)))),
    .o 6 (.lt (some 9) (.ixStr (.const (.string T)) (.tmp 8))),
    .o 7 (.lt (some 10) (.bin .add (.tmp 5) (.tmp 9))),
    .o 8 (.lt (some 11) (.mov (.tmp 0))),
    .o 9 (.lt (some 12) (.bin .shr (.tmp 11) (.const (.int .u64 8)))),
    .o 10 (.lt (some 13) (.bin .and (.tmp 12) (.const (.int .u32 255)))),
    .o 11 (.lt (some 14) (.ixStr (.const (.string T)) (.tmp 13))),
    .o 12 (.lt (some 15) (.bin .add (.tmp 10) (.tmp 14))),
    .o 13 (.lt (some 16) (.mov (.tmp 0))),
    .o 14 (.lt (some 17) (.bin .and (.tmp 16) (.const (.int .u32 255)))),
    .o 15 (.lt (some 18) (.ixStr (.const (.string T)) (.tmp 17))),
    .o 16 (.lt (some 19) (.bin .add (.tmp 15) (.tmp 18))),
    .o 17 (.lt (some 20) (.conv .i64 (.tmp 19))),
    .o 18 (.lt (some 2) (.mov (.tmp 20))),
    .g (.keep [2])]) (.ret))
theorem ones_ir : math_bits_OnesCount32.ir = onesIr tab := rfl
end Go.Abs.G


namespace Go.Abs.G
open Go.Proofs
set_option linter.unusedVariables false
attribute [local simp] I.vc sub merge place

def pop (n : Nat) : Nat := (List.range 32).countP n.testBit

theorem tab_all : ∀ i, i < 256 → byteAt tab i = ((List.range 8).countP i.testBit : Nat) := by decide +kernel
theorem tab_size : tab.size = 256 := by decide +kernel
theorem tab_get {i : Nat} (h : i < 256) : byteAt tab i = (((List.range 8).countP i.testBit : Nat) : Int) := tab_all i h

theorem byte32 {q : Nat} (h : q < 4294967296) : IntKind.u32.wrap ↑(((q : Int) % 2 ^ IntKind.u32.bits).toNat &&& 255 % 2 ^ IntKind.u32.bits) = ((q % 256 : Nat) : Int) := by
  have h2 : ((q : Int) % 2 ^ IntKind.u32.bits).toNat = q := by rw [bits32]; omega
  have h3 : 255 % 2 ^ IntKind.u32.bits = 2 ^ 8 - 1 := by rw [bits32]
  rw [h2, h3, Nat.and_two_pow_sub_one_eq_mod, wrap32 (by omega) (by omega)]

theorem byte32' {q : Nat} (h : q < 4294967296) : IntKind.u32.wrap ↑(q % 2 ^ IntKind.u32.bits &&& 255 % 2 ^ IntKind.u32.bits) = ((q % 256 : Nat) : Int) := by
  rw [← byte32 h]
  have h2 : ((q : Int) % 2 ^ IntKind.u32.bits).toNat = q := by rw [bits32]; omega
  have h3 : q % 2 ^ IntKind.u32.bits = q := by rw [bits32]; omega
  rw [h2, h3]

theorem pop_part (n k : Nat) : (List.range 8).countP (n / 2 ^ k % 256).testBit = (List.range 8).countP fun j => n.testBit (k + j) := by
  refine List.countP_congr fun j hj => ?_
  have hj : j < 8 := by simpa using hj
  have : (256 : Nat) = 2 ^ 8 := rfl
  rw [this, Nat.testBit_mod_two_pow, Nat.testBit_div_two_pow]
  simp [hj, Nat.add_comm]

theorem pop_eq (n : Nat) : pop n = (List.range 8).countP (n % 256).testBit + (List.range 8).countP (n / 256 % 256).testBit + (List.range 8).countP (n / 65536 % 256).testBit + (List.range 8).countP (n / 16777216 % 256).testBit := by
  have e0 := pop_part n 0
  have e1 := pop_part n 8
  have e2 := pop_part n 16
  have e3 := pop_part n 24
  simp only [Nat.pow_zero, Nat.div_one] at e0
  have p1 : (2 : Nat) ^ 8 = 256 := rfl
  have p2 : (2 : Nat) ^ 16 = 65536 := rfl
  have p3 : (2 : Nat) ^ 24 = 16777216 := rfl
  rw [p1] at e1; rw [p2] at e2; rw [p3] at e3
  rw [e0, e1, e2, e3]
  simp only [pop, List.range, List.range.loop, List.countP_cons, List.countP_nil, Nat.zero_add, Nat.add_zero, Nat.reduceAdd]
  omega

theorem count_le (p : Nat → Bool) : (List.range 8).countP p ≤ 8 := by
  have := List.countP_le_length (p := p) (l := List.range 8)
  simpa using this

theorem wrap8 {n : Int} (h0 : 0 ≤ n) (h1 : n < 256) : IntKind.u8.wrap n = n := by
  simp [IntKind.wrap, IntKind.bits, IntKind.signed]
  omega

theorem ones_spec (n : Nat) (h : n < 4294967296) : Pf Try.prog math_bits_OnesCount32.id [V.w n] (V.i (pop n)) := by
  refine DC.of math_bits_OnesCount32.ok (by simp) ?_
  rw [ones_ir]
  have hT := tab_size
  have hg := fun i => @tab_get i
  generalize tab = T at hT hg
  have s1 : (n : Int).fdiv (2 ^ min 24 IntKind.u32.bits) = ((n / 16777216 : Nat) : Int) := fdivN n 24
  have s2 : (n : Int).fdiv (2 ^ min 16 IntKind.u32.bits) = ((n / 65536 : Nat) : Int) := fdivN n 16
  have s3 : (n : Int).fdiv (2 ^ min 8 IntKind.u32.bits) = ((n / 256 : Nat) : Int) := fdivN n 8
  have b2 := byte32 (q := n / 65536) (by omega)
  have b3 := byte32 (q := n / 256) (by omega)
  have b4 := byte32' (q := n) h
  have g1 := hg (n / 16777216) (by omega)
  have g2 := hg (n / 65536 % 256) (by omega)
  have g3 := hg (n / 256 % 256) (by omega)
  have g4 := hg (n % 256) (by omega)
  have c1 := count_le (n / 16777216).testBit
  have c2 := count_le (n / 65536 % 256).testBit
  have c3 := count_le (n / 256 % 256).testBit
  have c4 := count_le (n % 256).testBit
  have hp := pop_eq n
  have q1' : n / 16777216 % 256 = n / 16777216 := by omega
  rw [q1'] at hp
  have l1 : n / 16777216 < 256 := by omega
  have l2 : n / 65536 % 256 < 256 := by omega
  have l3 : n / 256 % 256 < 256 := by omega
  have l4 : n % 256 < 256 := by omega
  generalize n / 16777216 = k1 at *
  generalize n / 65536 % 256 = k2 at *
  generalize n / 256 % 256 = k3 at *
  generalize n % 256 = k4 at *
  generalize (List.range 8).countP k1.testBit = r1 at *
  generalize (List.range 8).countP k2.testBit = r2 at *
  generalize (List.range 8).countP k3.testBit = r3 at *
  generalize (List.range 8).countP k4.testBit = r4 at *
  simp only [s1, s2, s3, b2, b3, b4, onesIr, math_bits_OnesCount32.rs]
  simp [-Nat.reducePow, -Int.reducePow]
  simp only [s1, s2, s3, b2, b3, b4, hT, Int.toNat_natCast, g1, g2, g3, g4]
  refine ⟨⟨by omega, by omega⟩, ⟨by omega, by omega⟩, ⟨by omega, by omega⟩, ⟨by omega, by omega⟩, ?_⟩
  rw [wrap8 (n := (r1 : Int) + r2) (by omega) (by omega), wrap8 (n := (r1 : Int) + r2 + r3) (by omega) (by omega), wrap8 (n := (r1 : Int) + r2 + r3 + r4) (by omega) (by omega), wrap64 (by omega) (by omega), hp]
  omega
end Go.Abs.G


namespace Go.Abs.G
open Go.Proofs
set_option linter.unusedVariables false
set_option linter.unusedSimpArgs false
attribute [local simp] I.vc sub merge place

def Dom.drop (d : Dom) (k : Nat) : Dom := if k < 32 then { d with a := clr d.a k } else { d with b := clr d.b (k - 32) }
def goesB (kind v x : Int) : Bool := if kind = 1 then decide (x < v) else if kind = 2 then decide (v < x) else decide (kind = 3) && decide (x = v)
end Go.Abs.G


namespace Go.Abs.G
open Go.Proofs
set_option linter.unusedVariables false
set_option linter.unusedSimpArgs false
attribute [local simp] I.vc sub merge place

def U (s : List Dom) (T : List (List Ce)) : Heap := [.mem false [1, 2] [[.own 1 4 0 s.length s.length, .own 2 1 0 T.length T.length]], .mem false [] (s.map Dom.row), .tree [] T]
structure StOk (s : List Dom) (T : List (List Ce)) : Prop where
  n : s.length ≤ 64
  k : T.length ≤ 1000000
  d : ∀ d ∈ s, d.ok
  t : ∀ f, Ce.renR f T = T
def isB (s : List Dom) (x : Int) : Bool := decide (0 ≤ x) && decide (x < s.length)

theorem isS_spec {s : List Dom} {T : List (List Ce)} (hs : StOk s T) (x : Int) : DC Try.prog dom_Store_is.id [.ptr 0 1 0 0, V.i x] (U s T) (fun r H => r = .bool (isB s x) ∧ H = U s T) := by
  refine DC.of dom_Store_is.ok (by simp) ?_
  by_cases h : 0 ≤ x
  · simp [dom_Store_is.ir, dom_Store_is.rs, U, isB, h]
  · simp [dom_Store_is.ir, dom_Store_is.rs, U, isB, h]
def Dom.size (d : Dom) : Nat := pop d.a + pop d.b
theorem pop_le (n : Nat) : pop n ≤ 32 := by
  have := List.countP_le_length (p := n.testBit) (l := List.range 32)
  simpa [pop] using this
theorem size_spec {rows : List (List V)} {d : Dom} {x : Nat} (hx : rows[x]? = some d.row) (hd : d.ok) :
    DC Try.prog dom_set_size.id [.ptr 0 rows.length x 2] [.mem false [] rows] (fun r H => r = V.i d.size ∧ H = [.mem false [] rows]) := by
  obtain ⟨hlt, he⟩ := List.getElem?_eq_some_iff.1 hx
  have p1 := pop_le d.a
  have p2 := pop_le d.b
  refine DC.of dom_set_size.ok (by simp) ?_
  simp [dom_set_size.ir, dom_set_size.rs]
  refine WI.mono (Q := fun e s => e = .exit 0 ∧ gt s.sl 3 = V.i d.size ∧ s.hp = [.mem false [] rows])
    (WI.loop 1 (by simp) (fun s => ∃ i : Nat, i ≤ 2 ∧ gt s.sl 6 = .ptr 0 rows.length x 2 ∧ gt s.sl 7 = V.i i ∧ gt s.sl 3 = V.i (if i = 0 then 0 else if i = 1 then pop d.a else d.size : Nat) ∧ s.hp = [.mem false [] rows]) (fun s => (2 - (gt s.sl 7).num).toNat) ?_ ?_) ?_
  · exact ⟨0, by simp⟩
  · rintro ⟨sl, hp, bs⟩ ⟨i, hi, h6, h7, h3, rfl⟩
    have hi' : i = 0 ∨ i = 1 ∨ i = 2 := by omega
    rcases hi' with rfl | rfl | rfl
    · simp [dom_set_size.b0, h6, h7, h3, hx, he, hlt, Dom.row]
      refine (ones_spec d.a hd.a).use ?_
      simp [h6, h7, h3]
      exact ⟨⟨1, by omega, by decide, by rw [wrap64 (by omega) (by omega)]; rfl⟩, by decide⟩
    · simp [dom_set_size.b0, h6, h7, h3, hx, he, hlt, Dom.row]
      refine (ones_spec d.b hd.b).use ?_
      simp [h6, h7, h3]
      exact ⟨⟨2, by omega, by decide, by rw [wrap64 (by omega) (by omega)]; rfl⟩, by decide⟩
    · simp [dom_set_size.b0, h6, h7, h3]
  · rintro e ⟨sl, hp, bs⟩ ⟨rfl, h3, rfl⟩
    simp [h3]


section
variable {s s' : List Dom} {T T' : List (List Ce)} {E : Heap}
@[simp] theorem U_len : (U s T).length = 3 := rfl
@[simp] theorem U_0 : (U s T)[0]? = some (.mem false [1, 2] [[.own 1 4 0 s.length s.length, .own 2 1 0 T.length T.length]]) := rfl
@[simp] theorem U_1 : (U s T)[1]? = some (.mem false [] (s.map Dom.row)) := rfl
@[simp] theorem U_2 : (U s T)[2]? = some (.tree [] T) := rfl
@[simp] theorem UE_0 : (U s T ++ E)[0]? = some (.mem false [1, 2] [[.own 1 4 0 s.length s.length, .own 2 1 0 T.length T.length]]) := rfl
@[simp] theorem UE_1 : (U s T ++ E)[1]? = some (.mem false [] (s.map Dom.row)) := rfl
@[simp] theorem UE_2 : (U s T ++ E)[2]? = some (.tree [] T) := rfl
@[simp] theorem U_clos : clos (U s T) 8 [0] = [0, 1, 2] := by simp [clos, addAll, O.refs, U]
@[simp] theorem UE_clos : clos (U s T ++ E) 8 [0] = [0, 1, 2] := by simp [clos, addAll, O.refs, U]
@[simp] theorem row_ren (f : Nat → Nat) (d : Dom) : V.renL f d.row = d.row := rfl
theorem U_ren (f : Nat → Nat) (h1 : f 1 = 1) (h2 : f 2 = 2) (ht : ∀ f, Ce.renR f T = T) : (U s T).map (O.ren f) = U s T := by
  simp [U, O.ren, V.renL, V.ren, h1, h2, ht, Function.comp_def]
theorem UE_sub (ht : ∀ f, Ce.renR f T = T) : sub (U s T ++ E) [0, 1, 2] = U s T := U_ren (idx [0, 1, 2]) rfl rfl ht
theorem U_sub (ht : ∀ f, Ce.renR f T = T) : sub (U s T) [0, 1, 2] = U s T := U_ren (idx [0, 1, 2]) rfl rfl ht
theorem UE_merge (ht : ∀ f, Ce.renR f T' = T') : merge (U s T ++ E) [0, 1, 2] (U s' T') = U s' T' ++ E := by
  have h := U_ren (s := s') (back [0, 1, 2] (U s T ++ E).length) rfl rfl ht
  have h1 : (U s' T').take 3 = U s' T' := rfl
  have h2 : (U s' T').drop 3 = [] := rfl
  simp only [merge, List.length_cons, List.length_nil, Nat.zero_add, Nat.reduceAdd, h1, h2, h, List.map_nil, List.append_nil]
  rfl
theorem U_merge (ht : ∀ f, Ce.renR f T' = T') : merge (U s T) [0, 1, 2] (U s' T') = U s' T' := by
  have h := U_ren (s := s') (back [0, 1, 2] (U s T).length) rfl rfl ht
  have h1 : (U s' T').take 3 = U s' T' := rfl
  have h2 : (U s' T').drop 3 = [] := rfl
  simp only [merge, List.length_cons, List.length_nil, Nat.zero_add, Nat.reduceAdd, h1, h2, h, List.map_nil, List.append_nil]
  rfl
theorem U_sel : OkSel (U s T) [0, 1, 2] := by
  simp [OkSel, O.refs, U]
theorem UE_sel : OkSel (U s T ++ E) [0, 1, 2] := by
  simp [OkSel, O.refs, U]
end
end Go.Abs.G


namespace Go.Abs.G
open Go.Proofs
set_option linter.unusedVariables false
set_option linter.unusedSimpArgs false
section
variable {s s' : List Dom} {T T' : List (List Ce)} {E : Heap}
@[simp] theorem U_clos1 : clos (U s T) 8 [1] = [1] := by simp [clos, addAll, O.refs, U]
theorem U_sel1 : OkSel (U s T) [1] := by simp [OkSel, O.refs, U]
theorem U_sub1 : sub (U s T) [1] = [.mem false [] (s.map Dom.row)] := by simp [sub, U, O.ren, Function.comp_def]
theorem U_merge1 : merge (U s T) [1] [.mem false [] (s.map Dom.row)] = U s T := by simp [merge, U, O.ren, place, Function.comp_def]
end

theorem StOk.row {s : List Dom} {T : List (List Ce)} (hs : StOk s T) {x : Int} (h : isB s x = true) : ∃ i d, x = ((i : Nat) : Int) ∧ i < s.length ∧ s[i]? = some d ∧ d.ok ∧ (s.map Dom.row)[i]? = some d.row := by
  simp only [isB, Bool.and_eq_true, decide_eq_true_eq] at h
  have hlt : x.toNat < s.length := by omega
  exact ⟨x.toNat, s[x.toNat], by omega, hlt, by simp [hlt], hs.d _ (List.getElem_mem hlt), by simp [hlt]⟩

attribute [local simp] I.vc

theorem sizeS_spec {s : List Dom} {T : List (List Ce)} (hs : StOk s T) (x : Int) : DC Try.prog dom_Store_Size.id [.ptr 0 1 0 0, V.i x] (U s T) (fun r H => r = V.i (if isB s x then (((s[x.toNat]?).map Dom.size).getD 0 : Nat) else 0 : Int) ∧ H = U s T) := by
  refine DC.of dom_Store_Size.ok (by simp) ?_
  unfold dom_Store_Size.ir
  refine vc_cut (fun st => gt st.sl 0 = .ptr 0 1 0 0 ∧ gt st.sl 1 = V.i x ∧ st.hp = U s T) (by simp) ?_
  rintro ⟨sl, hp, bs⟩ ⟨h0, h1, rfl⟩
  refine vc_cut (fun st => isB s x = true ∧ gt st.sl 0 = .ptr 0 1 0 0 ∧ gt st.sl 1 = V.i x ∧ st.hp = U s T) ?_ ?_
  · simp [h0, h1, V.idsL, V.ids, U_sub hs.t, U_sel]
    refine DC.mono (isS_spec hs x) ?_
    rintro r H ⟨rfl, rfl⟩
    cases h : isB s x <;> simp [U_merge hs.t, dom_Store_Size.rs]
  clear h0 h1
  rintro ⟨sl, hp, bs⟩ ⟨h, h0, h1, rfl⟩
  obtain ⟨i, d, rfl, hi, hd, hok, hr⟩ := hs.row h
  have := size_spec (rows := s.map Dom.row) hr hok
  rw [List.length_map] at this
  have hds : s[i] = d := by rw [List.getElem?_eq_getElem hi] at hd; injection hd
  simp [h0, h1, h, hi, V.idsL, V.ids, U_sel1, U_sub1]
  refine DC.mono this ?_
  rintro r H ⟨rfl, rfl⟩
  simp [U_merge1, dom_Store_Size.rs, hds]
end Go.Abs.G


namespace Go.Abs.G
open Go.Proofs
set_option linter.unusedVariables false
set_option linter.unusedSimpArgs false
attribute [local simp] I.vc
section
variable (d : Dom)
@[simp] theorem row_len : d.row.length = 4 := rfl
@[simp] theorem row_head : d.row.head? = some (V.i d.from') := rfl
@[simp] theorem row_0 : d.row[0]? = some (V.i d.from') := rfl
@[simp] theorem row_1 : d.row[1]? = some (V.i d.width) := rfl
@[simp] theorem row_2 : d.row[2]? = some (V.w d.a) := rfl
@[simp] theorem row_3 : d.row[3]? = some (V.w d.b) := rfl
@[simp] theorem row_0' (h) : d.row[0]'h = V.i d.from' := rfl
@[simp] theorem row_1' (h) : d.row[1]'h = V.i d.width := rfl
@[simp] theorem row_2' (h) : d.row[2]'h = V.w d.a := rfl
@[simp] theorem row_3' (h) : d.row[3]'h = V.w d.b := rfl
end
section
variable {s s' : List Dom} {T T' : List (List Ce)} {E : Heap}
@[simp] theorem UE_3 (o : O) : (U s T ++ (o :: E))[3]? = some o := rfl
@[simp] theorem UE_3' (o : O) (h) : (U s T ++ (o :: E))[3]'h = o := rfl
@[simp] theorem UE_0' (h) : (U s T ++ E)[0]'h = .mem false [1, 2] [[.own 1 4 0 s.length s.length, .own 2 1 0 T.length T.length]] := rfl
@[simp] theorem UE_1' (h) : (U s T ++ E)[1]'h = .mem false [] (s.map Dom.row) := rfl
@[simp] theorem UE_2' (h) : (U s T ++ E)[2]'h = .tree [] T := rfl
@[simp] theorem UE_4 (o o' : O) : (U s T ++ (o :: o' :: E))[4]? = some o' := rfl
@[simp] theorem UE_4' (o o' : O) (h) : (U s T ++ (o :: o' :: E))[4]'h = o' := rfl
@[simp] theorem UE_set3 (o o' : O) : (U s T ++ (o :: E)).set 3 o' = U s T ++ (o' :: E) := rfl
@[simp] theorem UE_set4 (o o1 o' : O) : (U s T ++ (o :: o1 :: E)).set 4 o' = U s T ++ (o :: o' :: E) := rfl
theorem trimU {P : Program} {f : FuncId} {xs : List V} {Q : V → Prop} {S' : V → List Dom} {T' : V → List (List Ce)} (h : DC P f xs (U s T) fun r H' => (∀ i ∈ r.ids, i < 3) ∧ Q r ∧ ∃ E, H' = U (S' r) (T' r) ++ E) :
    DC P f xs (U s T) fun r H' => Q r ∧ H' = U (S' r) (T' r) :=
  h.trim fun x H' ⟨h1, h2, E, h3⟩ => ⟨3, by simp, h1, h2, by rw [h3]; rfl⟩
theorem UE1_clos (rows : List (List V)) (E : Heap) : clos (U s T ++ (.mem false [] rows :: E)) 8 [3] = [3] := by simp [clos, addAll, O.refs, U]
theorem UE1_sel (rows : List (List V)) (E : Heap) : OkSel (U s T ++ (.mem false [] rows :: E)) [3] := by simp [OkSel, O.refs, U]
theorem UE1_sub (d : Dom) (E : Heap) : sub (U s T ++ (.mem false [] [d.row] :: E)) [3] = [.mem false [] [d.row]] := by simp [sub, U, O.ren]
theorem UE1_merge (d d' : Dom) (E : Heap) : merge (U s T ++ (.mem false [] [d.row] :: E)) [3] [.mem false [] [d'.row]] = U s T ++ (.mem false [] [d'.row] :: E) := by simp [merge, U, O.ren, place]
end

end Go.Abs.G


namespace Go.Abs.G
open Go.Proofs
set_option linter.unusedVariables false
set_option linter.unusedSimpArgs false
attribute [local simp] I.vc
section
variable {s s' : List Dom} {T T' : List (List Ce)} {E : Heap}
@[simp] theorem row_take (d : Dom) : List.take 4 d.row = d.row := rfl
@[simp] theorem row_idsL (d : Dom) : V.idsL d.row = [] := rfl
@[simp] theorem U_lim5 : (U s T).map (limO 5) = U s T := rfl
@[simp] theorem U_take5 (a b : O) : List.take 5 (U s T ++ [a, b]) = U s T ++ [a, b] := rfl
end

def cutTo (k v : Int) (d : Dom) : Nat → Dom
  | 0 => d
  | n + 1 => if goesB k v (d.from' + n) then (cutTo k v d n).drop n else cutTo k v d n
theorem drop_from (d : Dom) (k : Nat) : (d.drop k).from' = d.from' := by unfold Dom.drop; split <;> rfl
theorem drop_width (d : Dom) (k : Nat) : (d.drop k).width = d.width := by unfold Dom.drop; split <;> rfl
theorem drop_ok {d : Dom} (k : Nat) (h : d.ok) : (d.drop k).ok := by
  unfold Dom.drop; split
  · exact ⟨h.f, h.w, clr_lt _ _, h.b⟩
  · exact ⟨h.f, h.w, h.a, clr_lt _ _⟩
theorem cutTo_from (k v : Int) (d : Dom) : ∀ n, (cutTo k v d n).from' = d.from'
  | 0 => rfl
  | n + 1 => by unfold cutTo; split <;> simp [drop_from, cutTo_from k v d n]
theorem cutTo_width (k v : Int) (d : Dom) : ∀ n, (cutTo k v d n).width = d.width
  | 0 => rfl
  | n + 1 => by unfold cutTo; split <;> simp [drop_width, cutTo_width k v d n]
theorem cutTo_ok (k v : Int) {d : Dom} (h : d.ok) : ∀ n, (cutTo k v d n).ok
  | 0 => h
  | n + 1 => by unfold cutTo; split; exact drop_ok _ (cutTo_ok k v h n); exact cutTo_ok k v h n

def Dom.none (d : Dom) : Bool := decide (d.a = 0) && decide (d.b = 0)
def Dom.same (d e : Dom) : Bool := decide (d.a = e.a) && decide (d.b = e.b)
def cutS (s : List Dom) (k x v : Int) : List Dom × Bool × Bool :=
  if isB s x then match s[x.toNat]? with
    | some d => if (cutTo k v d d.width).none then (s, false, false) else (s.set x.toNat (cutTo k v d d.width), !(cutTo k v d d.width).same d, true)
    | none => (s, false, true)
  else (s, false, true)

end Go.Abs.G


namespace Go.Abs.G
open Go.Proofs
set_option linter.unusedVariables false
set_option linter.unusedSimpArgs false
attribute [local simp] I.vc

/-- A nil slice told as a slice without elements. -/
theorem DC.nilv {P : Program} {f : FuncId} {xs : List V} {H : Heap} {Q Q' : V → Heap → Prop} (es : Nat) (h : DC P f xs H Q) (hq : ∀ x H', Q x H' → Q' x H' ∨ (x = .a (.slice none 0 0) ∧ Q' (.view es []) H')) : DC P f xs H Q' := fun w β F vs hk hr =>
  (h w β F vs hk hr).mono fun e w' ⟨r, x, H', β2, h1, h2, h3, h4⟩ => by
    rcases hq x H' h4 with hQ | ⟨rfl, hQ⟩
    · exact ⟨r, x, H', β2, h1, h2, h3, hQ⟩
    · cases h3 with
      | a => exact ⟨_, .view es [], H', β2, h1, h2, .nilv, hQ⟩

def Dom.vals (d : Dom) (n : Nat) : List Int := ((List.range n).filter d.has).map fun i => d.from' + (i : Nat)
def valsB (s : List Dom) (x : Int) : List Int := if isB s x then ((s[x.toNat]?).map fun d => d.vals d.width).getD [] else []
theorem vals_succ (d : Dom) (n : Nat) : d.vals (n + 1) = if d.has n then d.vals n ++ [d.from' + n] else d.vals n := by
  unfold Dom.vals
  rw [List.range_succ, List.filter_append, List.map_append]
  cases h : d.has n <;> simp [h]
theorem vals_len (d : Dom) (n : Nat) : (d.vals n).length ≤ n := by
  unfold Dom.vals
  rw [List.length_map]
  exact Nat.le_trans (List.length_filter_le _ _) (by simp)

section
variable {s s' : List Dom} {T T' : List (List Ce)} {E : Heap}
@[simp] theorem U_take6 (a b c : O) : List.take 6 (U s T ++ (a :: b :: c :: E)) = U s T ++ [a, b, c] := rfl
@[simp] theorem U_take6' (a : O) : List.take 6 (U s T ++ [a]) = U s T ++ [a] := rfl
@[simp] theorem U_lim6 : (U s T).map (limO 6) = U s T := rfl
@[simp] theorem UE_5 (a b c : O) : (U s T ++ (a :: b :: c :: E))[5]? = some c := rfl
@[simp] theorem UE_5' (a b c : O) (h) : (U s T ++ (a :: b :: c :: E))[5]'h = c := rfl
@[simp] theorem UE_set5 (a b c o' : O) : (U s T ++ (a :: b :: c :: E)).set 5 o' = U s T ++ (a :: b :: o' :: E) := rfl
end

theorem values_spec {s : List Dom} {T : List (List Ce)} (hs : StOk s T) (x : Int) : DC Try.prog dom_Store_Values.id [.ptr 0 1 0 0, V.i x] (U s T) (fun r H => r = vInts (valsB s x) ∧ H = U s T) := by
  refine trimU (S' := fun _ => s) (T' := fun _ => T) (Q := fun r => r = vInts (valsB s x)) ?_
  refine DC.nilv (Q := fun r H' => (∀ i ∈ r.ids, i < 3) ∧ (r = vInts (valsB s x) ∨ r = .a (.slice none 0 0) ∧ valsB s x = []) ∧ ∃ E, H' = U s T ++ E) 1 ?_ ?_
  rotate_left
  · rintro r H' ⟨h1, h2 | ⟨h2, h4⟩, h3⟩
    · exact .inl ⟨h1, h2, h3⟩
    · refine .inr ⟨h2, by simp [V.ids], ?_, h3⟩
      rw [h4]; rfl
  refine DC.of dom_Store_Values.ok (by simp) ?_
  unfold dom_Store_Values.ir
  refine vc_cut (fun st => gt st.sl 0 = .ptr 0 1 0 0 ∧ gt st.sl 1 = V.i x ∧ st.hp = U s T) (by simp) ?_
  rintro ⟨sl, hp, bs⟩ ⟨h0, h1, rfl⟩
  refine vc_cut (fun st => isB s x = true ∧ gt st.sl 0 = .ptr 0 1 0 0 ∧ gt st.sl 1 = V.i x ∧ st.hp = U s T) ?_ ?_
  · simp [h0, h1, V.idsL, V.ids, U_sub hs.t, U_sel]
    refine DC.mono (isS_spec hs x) ?_
    rintro r H ⟨rfl, rfl⟩
    cases h : isB s x
    · have : valsB s x = [] := by simp [valsB, h]
      simp [U_merge hs.t, dom_Store_Values.rs, V.ids, this]
    · simp [U_merge hs.t, dom_Store_Values.rs]
  clear h0 h1
  rintro ⟨sl, hp, bs⟩ ⟨h, h0, h1, rfl⟩
  obtain ⟨i, d, rfl, hi, hd, hok, hr⟩ := hs.row h
  have hds : s[i] = d := by rw [List.getElem?_eq_getElem hi] at hd; injection hd
  have f1 := hok.f
  have f2 := hok.w
  have hB : valsB s i = d.vals d.width := by simp [valsB, h, hd]
  rw [hB]
  refine vc_cut (fun st => gt st.sl 5 = .a (.slice none 0 0) ∧ gt st.sl 0 = .ptr 0 1 0 0 ∧ gt st.sl 1 = V.i i ∧ st.hp = U s T) (by simp [h0, h1]) ?_
  clear h0 h1
  rintro ⟨sl, hp, bs⟩ ⟨h5, h0, h1, rfl⟩
  refine vc_cut (fun st => gt st.sl 5 = .a (.slice none 0 0) ∧ gt st.sl 6 = .ptr 3 1 0 0 ∧ st.hp = U s T ++ [.mem false [] [d.row]]) ?_ ?_
  · simp [h0, h1, h5, hi, hds, U]
  clear h0 h1 h5
  rintro ⟨sl, hp, bs⟩ ⟨h5, h6, rfl⟩
  refine vc_cut (fun st => (gt st.sl 5 = .a (.slice none 0 0) ∧ st.hp = U s T ++ [.mem false [] [d.row]] ∧ d.vals d.width = []) ∨ (gt st.sl 5 = .own 5 1 0 (d.vals d.width).length (d.vals d.width).length ∧ st.hp = U s T ++ [.mem false [] [d.row], .res, .mem false [] ((d.vals d.width).map fun n => [V.i n])])) ?_ ?_
  · simp [h5, h6]
    refine WI.mono (Q := fun e st => e = .exit 0 ∧ ((gt st.sl 5 = .a (.slice none 0 0) ∧ st.hp = U s T ++ [.mem false [] [d.row]] ∧ d.vals d.width = []) ∨ (gt st.sl 5 = .own 5 1 0 (d.vals d.width).length (d.vals d.width).length ∧ st.hp = U s T ++ [.mem false [] [d.row], .res, .mem false [] ((d.vals d.width).map fun n => [V.i n])])))
      (WI.loop 6 (by simp) (fun st => ∃ j, j ≤ d.width ∧ gt st.sl 6 = .ptr 3 1 0 0 ∧ gt st.sl 20 = V.i d.width ∧ gt st.sl 21 = V.i j ∧ ((gt st.sl 5 = .a (.slice none 0 0) ∧ st.hp = U s T ++ [.mem false [] [d.row]] ∧ d.vals j = []) ∨ (gt st.sl 5 = .own 5 1 0 (d.vals j).length (d.vals j).length ∧ st.hp = U s T ++ [.mem false [] [d.row], .res, .mem false [] ((d.vals j).map fun n => [V.i n])]))) (fun st => (d.width - (gt st.sl 21).num).toNat) ?_ ?_) ?_
    · exact ⟨0, by simp [h5, h6, Dom.vals]⟩
    · clear h5 h6
      rintro ⟨sl, hp, bs⟩ ⟨j, hj, h6, h20, h21, h5⟩
      by_cases hjl : j < d.width
      · have hw : IntKind.i64.wrap ((j : Int) + 1) = ((j + 1 : Nat) : Int) := by rw [wrap64] <;> omega
        have hw2 : IntKind.i64.wrap (d.from' + j) = d.from' + j := by rw [wrap64] <;> omega
        have hh := has_spec (rows := [d.row]) (d := d) (x := 0) (k := j) rfl hok (by omega)
        have hv := vals_succ d j
        have hvl := vals_len d j
        rcases h5 with ⟨h5, rfl, hnil⟩ | ⟨h5, rfl⟩
        · simp [dom_Store_Values.b0, h5, h6, h20, h21, hjl, hw, hw2, UE1_clos, UE1_sel, UE1_sub, V.idsL, V.ids] at hh ⊢
          refine DC.mono hh ?_
          rintro r H ⟨rfl, rfl⟩
          cases hg : d.has j
          · simp [UE1_merge]
            exact ⟨⟨j + 1, by omega, by omega, by rw [hv, hg]; exact hnil⟩, by omega⟩
          · simp [UE1_merge]
            exact ⟨⟨j + 1, by omega, by omega, by simp [hv, hg, hnil, hw2]⟩, by omega⟩
        · simp [dom_Store_Values.b0, h5, h6, h20, h21, hjl, hw, hw2, UE1_clos, UE1_sel, UE1_sub, V.idsL, V.ids] at hh ⊢
          refine DC.mono hh ?_
          rintro r H ⟨rfl, rfl⟩
          cases hg : d.has j
          · simp [UE1_merge]
            exact ⟨⟨j + 1, by omega, by omega, by simp [hv, hg]⟩, by omega⟩
          · simp [UE1_merge]
            exact ⟨by omega, ⟨j + 1, by omega, by omega, by simp [hv, hg, hw2]⟩, by omega⟩
      · obtain rfl : j = d.width := by omega
        simp [dom_Store_Values.b0, h6, h20, h21]
        exact h5
    · rintro e ⟨sl, hp, bs⟩ ⟨rfl, h5⟩
      simpa using h5
  clear h5 h6
  rintro ⟨sl, hp, bs⟩ (⟨h5, rfl, hnil⟩ | ⟨h5, rfl⟩)
  · simp [h5, hnil, dom_Store_Values.rs, V.ids, V.nilSl, vInts]
  · simp [h5, dom_Store_Values.rs, V.ids, V.nilSl, vInts]
    exact List.take_of_length_le (by simp)

theorem valsB_len {s : List Dom} {T : List (List Ce)} (hs : StOk s T) (x : Int) : (valsB s x).length ≤ 64 := by
  unfold valsB
  split
  · cases h : s[x.toNat]? with
    | none => simp
    | some d => exact Nat.le_trans (vals_len d d.width) (hs.d d (List.mem_of_getElem? h)).w
  · simp

theorem lo_spec {s : List Dom} {T : List (List Ce)} (hs : StOk s T) (x : Int) (hne : isB s x = true → valsB s x ≠ []) : DC Try.prog dom_Store_Lo.id [.ptr 0 1 0 0, V.i x] (U s T) (fun r H => r = V.i (if isB s x then (valsB s x).headD 0 else 0) ∧ H = U s T) := by
  refine DC.of dom_Store_Lo.ok (by simp) ?_
  unfold dom_Store_Lo.ir
  refine vc_cut (fun st => gt st.sl 0 = .ptr 0 1 0 0 ∧ gt st.sl 1 = V.i x ∧ st.hp = U s T) (by simp) ?_
  rintro ⟨sl, hp, bs⟩ ⟨h0, h1, rfl⟩
  refine vc_cut (fun st => isB s x = true ∧ gt st.sl 0 = .ptr 0 1 0 0 ∧ gt st.sl 1 = V.i x ∧ st.hp = U s T) ?_ ?_
  · simp [h0, h1, V.idsL, V.ids, U_sub hs.t, U_sel]
    refine DC.mono (isS_spec hs x) ?_
    rintro r H ⟨rfl, rfl⟩
    cases h : isB s x <;> simp [U_merge hs.t, dom_Store_Lo.rs]
  clear h0 h1
  rintro ⟨sl, hp, bs⟩ ⟨h, h0, h1, rfl⟩
  have hn := hne h
  simp [h0, h1, h, V.idsL, V.ids, U_sub hs.t, U_sel]
  refine DC.mono (values_spec hs x) ?_
  rintro r H ⟨rfl, rfl⟩
  obtain ⟨a, l, hl⟩ := List.exists_cons_of_ne_nil hn
  simp [U_merge hs.t, dom_Store_Lo.rs, hl, vInts]
theorem hi_spec {s : List Dom} {T : List (List Ce)} (hs : StOk s T) (x : Int) (hne : isB s x = true → valsB s x ≠ []) : DC Try.prog dom_Store_Hi.id [.ptr 0 1 0 0, V.i x] (U s T) (fun r H => r = V.i (if isB s x then (valsB s x).getLastD 0 else 0) ∧ H = U s T) := by
  refine DC.of dom_Store_Hi.ok (by simp) ?_
  unfold dom_Store_Hi.ir
  refine vc_cut (fun st => gt st.sl 0 = .ptr 0 1 0 0 ∧ gt st.sl 1 = V.i x ∧ st.hp = U s T) (by simp) ?_
  rintro ⟨sl, hp, bs⟩ ⟨h0, h1, rfl⟩
  refine vc_cut (fun st => isB s x = true ∧ gt st.sl 0 = .ptr 0 1 0 0 ∧ gt st.sl 1 = V.i x ∧ st.hp = U s T) ?_ ?_
  · simp [h0, h1, V.idsL, V.ids, U_sub hs.t, U_sel]
    refine DC.mono (isS_spec hs x) ?_
    rintro r H ⟨rfl, rfl⟩
    cases h : isB s x <;> simp [U_merge hs.t, dom_Store_Hi.rs]
  clear h0 h1
  rintro ⟨sl, hp, bs⟩ ⟨h, h0, h1, rfl⟩
  have hn := hne h
  simp [h0, h1, h, V.idsL, V.ids, U_sub hs.t, U_sel]
  refine DC.mono (values_spec hs x) ?_
  rintro r H ⟨rfl, rfl⟩
  have hlen := valsB_len hs x
  have hpos : 0 < (valsB s x).length := List.length_pos_iff.2 hn
  have hw : IntKind.i64.wrap (((valsB s x).length : Int) - 1) = (((valsB s x).length - 1 : Nat) : Int) := by rw [wrap64] <;> omega
  have hlt : (valsB s x).length - 1 < (valsB s x).length := by omega
  simp [U_merge hs.t, dom_Store_Hi.rs, vInts, hw, hlt, List.getLast?_eq_getElem?]
end Go.Abs.G


namespace Go.Abs.G
open Go.Proofs
set_option linter.unusedVariables false
set_option linter.unusedSimpArgs false
attribute [local simp] I.vc

def openB (s : List Dom) (n : Nat) : List Int := ((List.range n).filter fun i => decide (1 < ((s[i]?).map Dom.size).getD 0)).map fun (i : Nat) => (i : Int)
theorem open_succ (s : List Dom) (n : Nat) : openB s (n + 1) = if 1 < ((s[n]?).map Dom.size).getD 0 then openB s n ++ [(n : Int)] else openB s n := by
  unfold openB
  rw [List.range_succ, List.filter_append, List.map_append]
  by_cases h : 1 < ((s[n]?).map Dom.size).getD 0 <;> simp [h]
theorem open_len (s : List Dom) (n : Nat) : (openB s n).length ≤ n := by
  unfold openB
  rw [List.length_map]
  exact Nat.le_trans (List.length_filter_le _ _) (by simp)
section
variable {s s' : List Dom} {T T' : List (List Ce)} {E : Heap}
@[simp] theorem U_take5b (a b : O) : List.take 5 (U s T ++ (a :: b :: E)) = U s T ++ [a, b] := rfl
@[simp] theorem U_take5c : List.take 5 (U s T) = U s T := rfl
end

theorem open_spec {s : List Dom} {T : List (List Ce)} (hs : StOk s T) : DC Try.prog dom_Store_Open.id [.ptr 0 1 0 0] (U s T) (fun r H => r = vInts (openB s s.length) ∧ H = U s T) := by
  refine trimU (S' := fun _ => s) (T' := fun _ => T) (Q := fun r => r = vInts (openB s s.length)) ?_
  have hsn := hs.n
  refine DC.of dom_Store_Open.ok (by simp) ?_
  unfold dom_Store_Open.ir
  refine vc_cut (fun st => gt st.sl 0 = .ptr 0 1 0 0 ∧ st.hp = U s T) (by simp) ?_
  rintro ⟨sl, hp, bs⟩ ⟨h0, rfl⟩
  refine vc_cut (fun st => gt st.sl 0 = .ptr 0 1 0 0 ∧ gt st.sl 3 = .a (.slice none 0 0) ∧ st.hp = U s T) (by simp [h0]) ?_
  clear h0
  rintro ⟨sl, hp, bs⟩ ⟨h0, h3, rfl⟩
  refine vc_cut (fun st => (gt st.sl 3 = .a (.slice none 0 0) ∧ st.hp = U s T ∧ openB s s.length = []) ∨ (gt st.sl 3 = .own 4 1 0 (openB s s.length).length (openB s s.length).length ∧ st.hp = U s T ++ [.res, .mem false [] ((openB s s.length).map fun n => [V.i n])])) ?_ ?_
  · simp [h0, h3]
    refine WI.mono (Q := fun e st => e = .exit 0 ∧ ((gt st.sl 3 = .a (.slice none 0 0) ∧ st.hp = U s T ∧ openB s s.length = []) ∨ (gt st.sl 3 = .own 4 1 0 (openB s s.length).length (openB s s.length).length ∧ st.hp = U s T ++ [.res, .mem false [] ((openB s s.length).map fun n => [V.i n])])))
      (WI.loop 5 (by simp) (fun st => ∃ j, j ≤ s.length ∧ gt st.sl 0 = .ptr 0 1 0 0 ∧ gt st.sl 9 = V.i s.length ∧ gt st.sl 10 = V.i j ∧ ((gt st.sl 3 = .a (.slice none 0 0) ∧ st.hp = U s T ∧ openB s j = []) ∨ (gt st.sl 3 = .own 4 1 0 (openB s j).length (openB s j).length ∧ st.hp = U s T ++ [.res, .mem false [] ((openB s j).map fun n => [V.i n])]))) (fun st => (s.length - (gt st.sl 10).num).toNat) ?_ ?_) ?_
    · exact ⟨0, by simp [h0, h3, openB]⟩
    · clear h0 h3
      rintro ⟨sl, hp, bs⟩ ⟨j, hj, h0, h9, h10, h3⟩
      by_cases hjl : j < s.length
      · have hw : IntKind.i64.wrap ((j : Int) + 1) = ((j + 1 : Nat) : Int) := by rw [wrap64] <;> omega
        have hv := open_succ s j
        have hvl := open_len s j
        have hB : isB s j = true := by simp [isB]; omega
        have hz := sizeS_spec hs j
        rw [if_pos hB] at hz
        simp only [Int.toNat_natCast] at hz
        generalize ((s[j]?).map Dom.size).getD 0 = z at hz hv
        rcases h3 with ⟨h3, rfl, hnil⟩ | ⟨h3, rfl⟩
        · simp [dom_Store_Open.b0, h0, h3, h9, h10, hjl, hw, U_clos, U_sel, U_sub hs.t, V.idsL, V.ids]
          refine DC.mono hz ?_
          rintro r H ⟨rfl, rfl⟩
          by_cases hg : 1 < z
          · have hg' : (1 : Int) < z := by omega
            simp [U_merge hs.t, hg']
            exact ⟨⟨j + 1, by omega, by omega, by simp [hv, hg, hnil]⟩, by omega⟩
          · have hg' : ¬ (1 : Int) < z := by omega
            simp [U_merge hs.t, hg']
            exact ⟨⟨j + 1, by omega, by omega, by rw [hv, if_neg hg]; exact hnil⟩, by omega⟩
        · simp [dom_Store_Open.b0, h0, h3, h9, h10, hjl, hw, UE_clos, UE_sel, UE_sub hs.t, V.idsL, V.ids]
          refine DC.mono hz ?_
          rintro r H ⟨rfl, rfl⟩
          by_cases hg : 1 < z
          · have hg' : (1 : Int) < z := by omega
            simp [UE_merge hs.t, hg']
            exact ⟨by omega, ⟨j + 1, by omega, by omega, by simp [hv, hg]⟩, by omega⟩
          · have hg' : ¬ (1 : Int) < z := by omega
            simp [UE_merge hs.t, hg']
            exact ⟨⟨j + 1, by omega, by omega, by simp [hv, hg]⟩, by omega⟩
      · obtain rfl : j = s.length := by omega
        simp [dom_Store_Open.b0, h0, h9, h10]
        exact h3
    · rintro e ⟨sl, hp, bs⟩ ⟨rfl, h5⟩
      simpa using h5
  clear h0 h3
  rintro ⟨sl, hp, bs⟩ (⟨h5, rfl, hnil⟩ | ⟨h5, rfl⟩)
  · simp [h5, hnil, dom_Store_Open.rs, V.ids, V.nilSl, vInts]
  · simp [h5, dom_Store_Open.rs, V.ids, V.nilSl, vInts]
    exact List.take_of_length_le (by simp)
end Go.Abs.G


namespace Go.Abs.G
open Go.Proofs
set_option linter.unusedVariables false
set_option linter.unusedSimpArgs false
attribute [local simp] I.vc

def Z (s : List Dom) (rf : List Nat) (R : List (List V)) : Heap := [.mem false [1, 2] [[.own 1 4 0 s.length s.length, .own 2 1 0 R.length R.length]], .mem false [] (s.map Dom.row), .mem false rf R]
section
variable {s : List Dom} {rf : List Nat} {R : List (List V)} {Es E : Heap} {n : Nat}
@[simp] theorem Z_s2 (o : O) : ((Z s rf R ++ E).set 2 o)[2]? = some o := rfl
@[simp] theorem Z_0 : (Z s rf R ++ E)[0]? = some (.mem false [1, 2] [[.own 1 4 0 s.length s.length, .own 2 1 0 R.length R.length]]) := rfl
@[simp] theorem Z_1 : (Z s rf R ++ E)[1]? = some (.mem false [] (s.map Dom.row)) := rfl
@[simp] theorem Z_2 : (Z s rf R ++ E)[2]? = some (.mem false rf R) := rfl
@[simp] theorem Z_0' (h) : (Z s rf R ++ E)[0]'h = .mem false [1, 2] [[.own 1 4 0 s.length s.length, .own 2 1 0 R.length R.length]] := rfl
@[simp] theorem Z_1' (h) : (Z s rf R ++ E)[1]'h = .mem false [] (s.map Dom.row) := rfl
@[simp] theorem Z_2' (h) : (Z s rf R ++ E)[2]'h = .mem false rf R := rfl
@[simp] theorem Z_len : (Z s rf R).length = 3 := rfl
end

end Go.Abs.G


namespace Go.Abs
theorem DC.post' {P : Program} {f : FuncId} {xs : List V} {H : Heap} {Q Q' : V → Heap → Prop} (h : DC P f xs H Q)
    (hq : ∀ x H1, Q x H1 → ∀ (w : World) (β : Nat → Hd) (F : Nat → Prop) (vs : Array Value), HOK w.heap H1 β F → RVs (cx w.heap H1 β F) vs (x :: xs) → ∃ β' H2, Adv F w H1 β w H2 β' ∧ Q' x H2) : DC P f xs H Q' := fun w β F vs hk hr =>
  (h w β F vs hk hr).mono fun e w' ⟨r, x, H', β2, h1, h2, h3, h4⟩ => by
    obtain ⟨β3, H2, a, hQ⟩ := hq x H' h4 w' β2 F _ h2.hok (RVs.cons' h3 (hr.mono h2.le))
    exact ⟨r, x, H2, β3, h1, h2.trans a, h3.mono a.le, hQ⟩
end Go.Abs
namespace Go.Abs.G
open Go.Proofs
set_option linter.unusedVariables false
set_option linter.unusedSimpArgs false
attribute [local simp] I.vc

def domCe (d : Dom) : List Ce := d.row.map .v
def mT (ms : List (List Dom)) : List (List Ce) := ms.map fun L => [.n 4 (L.map domCe)]
theorem domCe_flat (L : List Dom) : L.map domCe = flatC (L.map Dom.row) := by simp [domCe, flatC, Function.comp_def]
theorem domCe_ids : ∀ L : List Dom, Ce.idsR (L.map domCe) = []
  | [] => rfl
  | d :: L => by
    have : Ce.idsL (domCe d) = [] := rfl
    simp [Ce.idsR, this, domCe_ids L]
theorem mT_ids : ∀ ms : List (List Dom), Ce.idsR (mT ms) = []
  | [] => rfl
  | L :: ms => by
    have h := mT_ids ms
    unfold mT at h
    simp [mT, Ce.idsR, Ce.idsL, Ce.ids, domCe_ids, h]
end Go.Abs.G


namespace Go.Abs.G
open Go.Proofs
set_option linter.unusedVariables false
set_option linter.unusedSimpArgs false
attribute [local simp] I.vc

theorem lo_arg {w : World} {β : Nat → Hd} {F : Nat → Prop} {H : Heap} {vs : Array Value} {xs : List V} {i id n : Nat} (hr : RVs (cx w.heap H β F) vs xs) (hi : xs[i]? = some (.ptr id n 0 0)) (hd : hdOf H β id = some ((β id).wt n)) : (β id).lo = 0 := by
  have hlt := lt_of_get hi
  obtain ⟨v, hv⟩ : ∃ v, vs[i]? = some v := ⟨vs[i]'(by rw [hr.1]; exact hlt), Array.getElem?_eq_getElem _⟩
  exact lo_of_ptr (h := (β id).wt n) (hr.2 i v _ hv hi) hd rfl

end Go.Abs.G


namespace Go.Abs.G
open Go.Proofs
set_option linter.unusedVariables false
set_option linter.unusedSimpArgs false
attribute [local simp] I.vc

end Go.Abs.G


namespace Go.Abs.G
open Go.Proofs
set_option linter.unusedVariables false
set_option linter.unusedSimpArgs false
attribute [local simp] I.vc

/-- A store as one thing. -/
def St1 (s : List Dom) (T : List (List Ce)) : O := .tree [] [[.n 4 (s.map domCe), .n 1 T]]

/-- The struct first; then it holds the evidence for its doms. -/
theorem lo_of_tree {w : World} {F : Nat → Prop} {β : Nat → Hd} {H : Heap} {p c i j es k : Nat} {refs : List Nat} {rows : List (List Ce)} {row : List Ce} (hk : HOK w.heap H β F) (hp : H[p]? = some (.tree refs rows))
    (hi : rows[i]? = some row) (hj : row[j]? = some (.v (.own c es 0 k k))) (hc : hdOf H β c = some ((β c).wt k)) : (β c).lo = 0 := by
  rcases hk.ro p _ hp with hr | ⟨q1, q2, q3, q4, q5⟩
  · rw [hr.2.1] at hi; simp at hi
  · obtain ⟨u, Sx, hx, _⟩ := q4.cell hi hj
    have := hx.val
    cases this with
    | own hl hh => exact Nat.le_zero.1 ((hh _ hc).2 rfl).1

theorem close_store {w : World} {β : Nat → Hd} {F : Nat → Prop} {H : Heap} {s : List Dom} {T : List (List Ce)} {rf rb : List Nat} {a b : Nat} (hk : HOK w.heap H β F)
    (h0 : H[0]? = some (.mem false rf [[.own a 4 0 s.length s.length, .own b 1 0 T.length T.length]])) (ha : H[a]? = some (.mem false [] (s.map Dom.row))) (hb : H[b]? = some (.tree rb T)) (hT : Ce.idsR T = [])
    (na : a ≠ 0) (nb : b ≠ 0) (nab : a ≠ b) (hlo : (β 0).lo = 0) : ∃ β' H2, Adv F w H β w H2 β' ∧ H2[0]? = some (St1 s T) ∧ H2.length = H.length := by
  obtain ⟨β1, a1⟩ := adv_toTree hk h0 hlo
  generalize hP : O.tree rf (flatC [[.own a 4 0 s.length s.length, .own b 1 0 T.length T.length]]) = P at a1
  have p1 : (H.set 0 P)[0]? = some (.tree rf [[.v (.own a 4 0 s.length s.length), .v (.own b 1 0 T.length T.length)]]) := by rw [get_set h0, ← hP]; rfl
  have q1 : (H.set 0 P)[a]? = some (.mem false [] (s.map Dom.row)) := by rw [getElem?_set_ne' na]; exact ha
  have r1 : (H.set 0 P)[b]? = some (.tree rb T) := by rw [getElem?_set_ne' nb]; exact hb
  have la : (β1 a).lo = 0 := lo_of_tree (i := 0) (j := 0) a1.hok p1 rfl rfl (by unfold hdOf; rw [q1]; simp)
  have hl1 : (H.set 0 P).length = H.length := List.length_set
  generalize H.set 0 P = H1 at a1 p1 q1 r1 hl1
  obtain ⟨β2, a2⟩ := adv_toTree a1.hok q1 la
  rw [← domCe_flat] at a2
  have p2 : (H1.set a (.tree [] (s.map domCe)))[0]? = some (.tree rf [[.v (.own a 4 0 s.length s.length), .v (.own b 1 0 T.length T.length)]]) := by rw [getElem?_set_ne' (Ne.symm na)]; exact p1
  have q2 : (H1.set a (.tree [] (s.map domCe)))[a]? = some (.tree [] (s.map domCe)) := get_set q1
  have r2 : (H1.set a (.tree [] (s.map domCe)))[b]? = some (.tree rb T) := by rw [getElem?_set_ne' (Ne.symm nab)]; exact r1
  have hl2 : (H1.set a (.tree [] (s.map domCe))).length = H.length := by rw [List.length_set]; exact hl1
  generalize H1.set a (.tree [] (s.map domCe)) = H2 at a2 p2 q2 r2 hl2
  obtain ⟨β3, a3⟩ := adv_pack (i := 0) (j := 0) a2.hok p2 q2 (Ne.symm na) rfl rfl (by simp)
  generalize hP3 : O.tree (rf ++ []) _ = P3 at a3
  have p3 : ((H2.set a O.dead).set 0 P3)[0]? = some (.tree (rf ++ []) [[.n 4 (s.map domCe), .v (.own b 1 0 T.length T.length)]]) := by rw [get_set (x := _) (by rw [getElem?_set_ne' (Ne.symm na)]; exact p2), ← hP3]; rfl
  have r3 : ((H2.set a O.dead).set 0 P3)[b]? = some (.tree rb T) := by rw [getElem?_set_ne' nb, getElem?_set_ne' (Ne.symm nab)]; exact r2
  have hl3 : ((H2.set a O.dead).set 0 P3).length = H.length := by rw [List.length_set, List.length_set]; exact hl2
  generalize (H2.set a O.dead).set 0 P3 = H3 at a3 p3 r3 hl3
  obtain ⟨β4, a4⟩ := adv_pack (i := 0) (j := 1) a3.hok p3 r3 (Ne.symm nb) rfl rfl rfl
  generalize hP4 : O.tree (rf ++ [] ++ rb) _ = P4 at a4
  have p4 : ((H3.set b O.dead).set 0 P4)[0]? = some (.tree (rf ++ [] ++ rb) [[.n 4 (s.map domCe), .n 1 T]]) := by rw [get_set (x := _) (by rw [getElem?_set_ne' (Ne.symm nb)]; exact p3), ← hP4]; rfl
  have hl4 : ((H3.set b O.dead).set 0 P4).length = H.length := by rw [List.length_set, List.length_set]; exact hl3
  generalize (H3.set b O.dead).set 0 P4 = H4 at a4 p4 hl4
  obtain ⟨β5, a5⟩ := adv_refsT (refs' := []) a4.hok p4 (by simp [Ce.idsR, Ce.idsL, Ce.ids, domCe_ids, hT])
  exact ⟨β5, _, a1.trans (a2.trans (a3.trans (a4.trans a5))), get_set p4, by rw [List.length_set]; exact hl4⟩
end Go.Abs.G


namespace Go.Abs.G
open Go.Proofs
set_option linter.unusedVariables false
set_option linter.unusedSimpArgs false
attribute [local simp] I.vc

theorem open_store {xs : List V} {s : List Dom} {T : List (List Ce)} (hT : Ce.idsR T = []) : Step xs [St1 s T] (U s T) := fun w β F vs hk hr => by
  obtain ⟨β1, a1⟩ := adv_unpack (id := 0) (i := 0) (j := 0) hk rfl rfl rfl
  replace a1 : Adv F w [St1 s T] β w [.tree [1] [[.v (.own 1 4 0 (s.map domCe).length (s.map domCe).length), .n 1 T]], .tree [] (s.map domCe)] β1 := a1
  rw [List.length_map] at a1
  obtain ⟨β2, a2⟩ := adv_unpack (id := 0) (i := 0) (j := 1) a1.hok rfl rfl rfl
  replace a2 : Adv F w [.tree [1] [[.v (.own 1 4 0 s.length s.length), .n 1 T]], .tree [] (s.map domCe)] β1 w [.tree [2, 1] [[.v (.own 1 4 0 s.length s.length), .v (.own 2 1 0 T.length T.length)]], .tree [] (s.map domCe), .tree [1] T] β2 := a2
  obtain ⟨β3, a3⟩ := adv_refsT (id := 2) (refs' := []) a2.hok rfl (by rw [hT]; simp)
  obtain ⟨β4, a4⟩ := adv_toMem (id := 1) (refs := []) (rows := s.map Dom.row) a3.hok (by rw [← domCe_flat]; rfl)
  obtain ⟨β5, a5⟩ := adv_refsT (id := 0) (refs' := [1, 2]) a4.hok rfl (by simp [Ce.idsR, Ce.idsL, Ce.ids, V.ids])
  obtain ⟨β6, a6⟩ := adv_toMem (id := 0) (refs := [1, 2]) (rows := [[.own 1 4 0 s.length s.length, .own 2 1 0 T.length T.length]]) a5.hok rfl
  exact ⟨β6, a1.trans (a2.trans (a3.trans (a4.trans (a5.trans a6))))⟩

/-- A contract on a store that lies open, as one on a store as one thing. -/
theorem DC.packed {P : Program} {f : FuncId} {ys : List V} {s : List Dom} {T : List (List Ce)} {Q : V → Prop} {S' : List Dom} {T' : List (List Ce)} (hT : Ce.idsR T = []) (hT' : Ce.idsR T' = [])
    (h : DC P f (.ptr 0 1 0 0 :: ys) (U s T) fun r H => Q r ∧ H = U S' T') (hq : ∀ r, Q r → r.ids = []) : DC P f (.ptr 0 1 0 0 :: ys) [St1 s T] fun r H => Q r ∧ H = [St1 S' T'] := by
  refine DC.trim (Q := fun r H => Q r ∧ H[0]? = some (St1 S' T')) ?_ ?_
  rotate_left
  · rintro r H ⟨h1, h2⟩
    refine ⟨1, by simp, by rw [hq r h1]; simp, h1, ?_⟩
    match H, h2 with
    | x :: tl, h2 =>
      simp at h2
      subst h2
      simp [St1, limO, O.refs]
  refine DC.pre (open_store hT) (DC.post' h ?_)
  rintro x H1 ⟨h1, rfl⟩ w β F vs hk hr
  obtain ⟨β', H2, a, h2, _⟩ := close_store (a := 1) (b := 2) (rb := []) hk U_0 U_1 U_2 hT' (by simp) (by simp) (by simp) (lo_arg (i := 1) hr rfl rfl)
  exact ⟨β', H2, a, h1, h2⟩
end Go.Abs.G


/- The reference's store: two owned lists whose rows are only read. -/
namespace Go.Abs.G
open Go.Proofs
set_option linter.unusedVariables false
set_option linter.unusedSimpArgs false
attribute [local simp] I.vc

def flR (D : List (List V)) : Prop := (∀ f, D.map (V.renL f) = D) ∧ Ce.idsR (flatC D) = []

def RS (D M : List (List V)) : Heap := [.mem false [1, 2] [[.own 1 1 0 D.length D.length, .own 2 1 0 M.length M.length]], .mem false [] D, .mem false [] M]
def R1 (D M : List (List V)) : O := .tree [] [[.n 1 (flatC D), .n 1 (flatC M)]]

section
variable {D M D' M' : List (List V)} {E : Heap}
@[simp] theorem RS_len : (RS D M).length = 3 := rfl
@[simp] theorem RS_0 : (RS D M)[0]? = some (.mem false [1, 2] [[.own 1 1 0 D.length D.length, .own 2 1 0 M.length M.length]]) := rfl
@[simp] theorem RS_1 : (RS D M)[1]? = some (.mem false [] D) := rfl
@[simp] theorem RS_2 : (RS D M)[2]? = some (.mem false [] M) := rfl
@[simp] theorem RSE_0 : (RS D M ++ E)[0]? = some (.mem false [1, 2] [[.own 1 1 0 D.length D.length, .own 2 1 0 M.length M.length]]) := rfl
@[simp] theorem RSE_1 : (RS D M ++ E)[1]? = some (.mem false [] D) := rfl
@[simp] theorem RSE_2 : (RS D M ++ E)[2]? = some (.mem false [] M) := rfl
@[simp] theorem RSE_0' (h) : (RS D M ++ E)[0]'h = .mem false [1, 2] [[.own 1 1 0 D.length D.length, .own 2 1 0 M.length M.length]] := rfl
@[simp] theorem RSE_1' (h) : (RS D M ++ E)[1]'h = .mem false [] D := rfl
@[simp] theorem RSE_2' (h) : (RS D M ++ E)[2]'h = .mem false [] M := rfl
@[simp] theorem RS_0' (h) : (RS D M)[0]'h = .mem false [1, 2] [[.own 1 1 0 D.length D.length, .own 2 1 0 M.length M.length]] := rfl
@[simp] theorem RS_1' (h) : (RS D M)[1]'h = .mem false [] D := rfl
@[simp] theorem RS_2' (h) : (RS D M)[2]'h = .mem false [] M := rfl
@[simp] theorem RSE_3 (a : O) : (RS D M ++ (a :: E))[3]? = some a := rfl
@[simp] theorem RSE_3' (a : O) (h) : (RS D M ++ (a :: E))[3]'h = a := rfl
@[simp] theorem RSE_4 (a b : O) : (RS D M ++ (a :: b :: E))[4]? = some b := rfl
@[simp] theorem RSE_4' (a b : O) (h) : (RS D M ++ (a :: b :: E))[4]'h = b := rfl
@[simp] theorem RSE_5 (a b c : O) : (RS D M ++ (a :: b :: c :: E))[5]? = some c := rfl
@[simp] theorem RSE_5' (a b c : O) (h) : (RS D M ++ (a :: b :: c :: E))[5]'h = c := rfl
@[simp] theorem RSE_set3 (a o : O) : (RS D M ++ (a :: E)).set 3 o = RS D M ++ (o :: E) := rfl
@[simp] theorem RSE_set4 (a b o : O) : (RS D M ++ (a :: b :: E)).set 4 o = RS D M ++ (a :: o :: E) := rfl
@[simp] theorem RSE_set5 (a b c o : O) : (RS D M ++ (a :: b :: c :: E)).set 5 o = RS D M ++ (a :: b :: o :: E) := rfl
@[simp] theorem RS_lim (n : Nat) (h : 3 ≤ n) : (RS D M).map (limO n) = RS D M := by
  have h1 : 1 < n := by omega
  have h2 : 2 < n := by omega
  simp [RS, limO, O.refs, h1, h2]
@[simp] theorem RS_take3 : List.take 3 (RS D M) = RS D M := rfl
@[simp] theorem RS_clos : clos (RS D M) 8 [0] = [0, 1, 2] := by simp [clos, addAll, O.refs, RS]
@[simp] theorem RSE_clos : clos (RS D M ++ E) 8 [0] = [0, 1, 2] := by simp [clos, addAll, O.refs, RS]
end

/-- A list of lists, and marks of it. -/
def dR (d : List (List Int)) : List (List V) := d.map fun l => [vInts l]
def mR (ms : List (List (List Int))) : List (List V) := ms.map fun d => [vIntss d]
theorem flatC_ids : ∀ (D : List (List V)), (∀ r ∈ D, V.idsL r = []) → Ce.idsR (flatC D) = []
  | [], _ => rfl
  | r :: D, h => by
    have hr : ∀ (r : List V), Ce.idsL (r.map Ce.v) = V.idsL r := fun r => by
      induction r with
      | nil => rfl
      | cons x r ih => simp [Ce.idsL, Ce.ids, V.idsL, ih]
    have := flatC_ids D (fun r' h' => h r' (by simp [h']))
    simp only [flatC] at this
    simp [flatC, Ce.idsR, hr, h r (by simp), this]
theorem fl_dR (d : List (List Int)) : flR (dR d) := ⟨fun f => by simp [dR, V.renL, V.ren, vInts, Function.comp_def], flatC_ids _ fun r hr => by
  simp only [dR, List.mem_map] at hr
  obtain ⟨l, _, rfl⟩ := hr
  rfl⟩
theorem fl_mR (ms : List (List (List Int))) : flR (mR ms) := ⟨fun f => by simp [mR, V.renL, V.ren, vIntss, Function.comp_def], flatC_ids _ fun r hr => by
  simp only [mR, List.mem_map] at hr
  obtain ⟨l, _, rfl⟩ := hr
  rfl⟩
@[simp] theorem dR_len (d : List (List Int)) : (dR d).length = d.length := by simp [dR]
@[simp] theorem mR_len (ms : List (List (List Int))) : (mR ms).length = ms.length := by simp [mR]
end Go.Abs.G



namespace Go.Abs.G
open Go.Proofs
set_option linter.unusedVariables false
-- hallmark/hallmarkref11.own
def hallmarkref11_ownF.ann : List (Nat × RA) := [(0, { gs := [], keep := some [0] }), (1, { gs := [], keep := some [0, 3] }), (2, { gs := [], keep := some [0, 3, 4] }), (3, { gs := [], keep := some [0, 3, 4, 8] }), (4, { gs := [], keep := some [0, 3, 4] }), (5, { gs := [(6, [.frz 16, .nilv 16 1])], keep := some [0, 3, 4], aps := [(6, [1000004])] }), (6, { gs := [(0, [.frz 3, .nilv 3 1])], keep := some [2] })]
def hallmarkref11_ownF.b0 : C := .seq (.seq (.reg 0 [.o 0 (.lt (some 5) (.mov (.tmp 4))),
    .o 1 (.lt (some 6) (.mov (.tmp 0))),
    .o 2 (.lt (some 7) (.lenSl (.tmp 6))),
    .o 3 (.lt (some 8) (.bin .lss (.tmp 5) (.tmp 7))),
    .g (.keep [0, 3, 4, 8])]) (.cond (.tmp 8) (.skip) (.exit 0))) (.seq (.block 1 (.reg 3 [.o 0 (.lt (some 11) (.mov (.tmp 3))),
    .o 1 (.lt (some 12) (.mov (.tmp 0))),
    .o 2 (.lt (some 13) (.mov (.tmp 4))),
    .o 3 (.lt (some 14) (.ixS 1 (.tmp 12) (.tmp 13))),
    .o 4 (.lt (some 15) (.ld false 1 (.tmp 14))),
    .o 5 (.app [] (some 16) 0 1 8 (.const (.slice none 0 0)) (.tmp 15)),
    .g (.frz 16),
    .g (.nilv 16 1),
    .o 6 (.bsv (some 17) 1 1 [.a (.slice none 0 0)] [(0, (.tmp 16))]),
    .o 7 (.app [] (some 18) 2 1 24 (.tmp 11) (.tmp 17)),
    .o 8 (.lt (some 3) (.mov (.tmp 18))),
    .g (.keep [0, 3, 4])])) (.reg 0 [.o 0 (.lt (some 9) (.mov (.tmp 4))),
    .o 1 (.lt (some 10) (.bin .add (.tmp 9) (.const (.int .i64 1)))),
    .o 2 (.lt (some 4) (.mov (.tmp 10))),
    .g (.keep [0, 3, 4])]))
def hallmarkref11_ownF.rs : List Rs := [.sl 2]
end Go.Abs.G



/- What the reference's look at a problem tells: the same. -/
namespace Go.Abs
set_option linter.unusedVariables false

end Go.Abs

namespace Go.Abs.G
open Go.Proofs
attribute [local simp] I.vc sub merge place
set_option linter.unusedVariables false

theorem within_spec (n most : Int) (h0 : 0 ≤ most) (h1 : most ≤ 9223372036854775807) : Pf Try.prog model_within.id [V.i n, V.i most] (.bool (withinB n most)) := by
  refine DC.of model_within.ok (by simp) ?_
  have hw : IntKind.i64.wrap (-most) = -most := wrap64 (by omega) (by omega)
  simp [model_within.ir, model_within.rs, hw, withinB]
  by_cases h : -most ≤ n <;> simp [h] <;> omega

theorem great1_spec (n : Int) : Pf Try.prog model_great_1.id [V.i n] (.bool (!withinB n 1000000000)) := by
  refine DC.of model_great_1.ok (by simp) ?_
  simp [model_great_1.ir, model_great_1.rs]
  exact (within_spec n 1000000000 (by decide) (by decide)).use (by simp)

/-- The place of the first of which something is told. -/
def firstAt {α : Type} (p : α → Bool) : Nat → List α → Int
  | _, [] => -1
  | i, x :: l => if p x then i else firstAt p (i + 1) l

theorem firstAt_any {α : Type} (p : α → Bool) : ∀ (l : List α) (i : Nat), decide (0 ≤ firstAt p i l) = l.any p := by
  intro l
  induction l with
  | nil => intro i; simp [firstAt]
  | cons x l ih =>
    intro i
    simp only [firstAt, List.any_cons]
    by_cases h : p x = true
    · simp [h]
    · simp [h, ih]

theorem firstAt_drop {α : Type} (p : α → Bool) {l : List α} {i : Nat} (h : i < l.length) : firstAt p i (l.drop i) = if p l[i] then (i : Int) else firstAt p (i + 1) (l.drop (i + 1)) := by
  rw [List.drop_eq_getElem_cons h]; rfl

theorem index_int_spec {f : FuncId} {cap : List V} {p : Int → Bool} {l : List Int} (hok : okFunc Try.prog f = true) (hids : V.idsL cap = []) (hg : ∀ t ∈ l, DP Try.prog f (V.i t :: cap) fun r => r = .bool (p t)) (hl : l.length ≤ maxLen) :
    Pf Try.prog slices_IndexFunc_Lint_int.id [vInts l, .fn (.func f) [] cap] (V.i (firstAt p 0 l)) := by
  have hm : (maxLen : Int) ≤ 9223372036854775807 := by decide
  refine DC.of slices_IndexFunc_Lint_int.ok (by simp) ?_
  simp [slices_IndexFunc_Lint_int.ir, slices_IndexFunc_Lint_int.rs, vInts]
  refine WI.loop 0 (by simp) (fun s => ∃ i, i ≤ l.length ∧ gt s.sl 1 = .fn (.func f) [] cap ∧ gt s.sl 0 = vInts l ∧ gt s.sl 7 = V.i l.length ∧ gt s.sl 8 = V.i i ∧ s.hp = [] ∧ firstAt p 0 l = firstAt p i (l.drop i)) (fun s => (l.length - (gt s.sl 8).num).toNat) ?_ ?_
  · exact ⟨0, by simp [vInts]⟩
  · rintro ⟨sl, hp, bs⟩ ⟨i, hi, h1, h0, h7, h8, rfl, he⟩
    by_cases hil : i < l.length
    · simp [slices_IndexFunc_Lint_int.b0, h1, h0, h7, h8, vInts, hil, hok, hids]
      refine DP.mono (hg _ (List.getElem_mem hil)) fun r hr => ?_
      subst hr
      rw [firstAt_drop p hil] at he
      have hw : IntKind.i64.wrap ((i : Int) + 1) = ((i + 1 : Nat) : Int) := by rw [wrap64] <;> omega
      cases hp : p l[i]
      · simp [hw, he, hp]
        exact ⟨⟨i + 1, by omega, by omega, rfl⟩, by omega⟩
      · simp [he, hp]
    · obtain rfl : i = l.length := by omega
      simp [slices_IndexFunc_Lint_int.b0, h1, h0, h7, h8, he, firstAt]

theorem contains_int_spec {f : FuncId} {cap : List V} {p : Int → Bool} {l : List Int} (hok : okFunc Try.prog f = true) (hids : V.idsL cap = []) (hg : ∀ t ∈ l, DP Try.prog f (V.i t :: cap) fun r => r = .bool (p t)) (hl : l.length ≤ maxLen) :
    Pf Try.prog slices_ContainsFunc_Lint_int.id [vInts l, .fn (.func f) [] cap] (.bool (l.any p)) := by
  refine DC.of slices_ContainsFunc_Lint_int.ok (by simp) ?_
  simp [slices_ContainsFunc_Lint_int.ir, slices_ContainsFunc_Lint_int.rs, vInts, hids]
  refine (index_int_spec hok hids hg hl).use ?_
  simp [firstAt_any]

theorem great_spec (l : List Int) (hl : l.length ≤ maxLen) : Pf Try.prog model_great.id [vInts l] (.bool (greatB l)) := by
  refine DC.of model_great.ok (by simp) ?_
  simp [model_great.ir, model_great.rs, vInts]
  refine (contains_int_spec (by simp) (by simp) (fun t _ => great1_spec t) hl).use ?_
  simp [greatB]

theorem counts_spec (b : Bool) (n : Nat) : Pf Try.prog model_counts.id [.bool b, V.i n] (.bool (countsB b n)) := by
  refine DC.of model_counts.ok (by simp) ?_
  simp [model_counts.ir, model_counts.rs, countsB]
  cases b <;> by_cases h : 1 ≤ n <;> simp [h] <;> omega

end Go.Abs.G



namespace Go.Abs.G
open Go.Proofs
attribute [local simp] I.vc sub merge place
set_option linter.unusedVariables false
theorem index_ints_spec {f : FuncId} {cap : List V} {p : List Int → Bool} {l : List (List Int)} (hok : okFunc Try.prog f = true) (hids : V.idsL cap = []) (hg : ∀ t ∈ l, DP Try.prog f (vInts t :: cap) fun r => r = .bool (p t)) (hl : l.length ≤ maxLen) :
    Pf Try.prog slices_IndexFunc_LLint_Lint.id [vIntss l, .fn (.func f) [] cap] (V.i (firstAt p 0 l)) := by
  have hm : (maxLen : Int) ≤ 9223372036854775807 := by decide
  refine DC.of slices_IndexFunc_LLint_Lint.ok (by simp) ?_
  simp [slices_IndexFunc_LLint_Lint.ir, slices_IndexFunc_LLint_Lint.rs, vIntss]
  refine WI.loop 0 (by simp) (fun s => ∃ i, i ≤ l.length ∧ gt s.sl 1 = .fn (.func f) [] cap ∧ gt s.sl 0 = vIntss l ∧ gt s.sl 7 = V.i l.length ∧ gt s.sl 8 = V.i i ∧ s.hp = [] ∧ firstAt p 0 l = firstAt p i (l.drop i)) (fun s => (l.length - (gt s.sl 8).num).toNat) ?_ ?_
  · exact ⟨0, by simp [vIntss]⟩
  · rintro ⟨sl, hp, bs⟩ ⟨i, hi, h1, h0, h7, h8, rfl, he⟩
    by_cases hil : i < l.length
    · simp [slices_IndexFunc_LLint_Lint.b0, h1, h0, h7, h8, vIntss, vInts, hil, hok, hids]
      refine DP.mono (hg _ (List.getElem_mem hil)) fun r hr => ?_
      subst hr
      rw [firstAt_drop p hil] at he
      have hw : IntKind.i64.wrap ((i : Int) + 1) = ((i + 1 : Nat) : Int) := by rw [wrap64] <;> omega
      cases hp : p l[i]
      · simp [hw, he, hp]
        exact ⟨⟨i + 1, by omega, by omega, rfl⟩, by omega⟩
      · simp [he, hp]
    · obtain rfl : i = l.length := by omega
      simp [slices_IndexFunc_LLint_Lint.b0, h1, h0, h7, h8, he, firstAt]

theorem contains_ints_spec {f : FuncId} {cap : List V} {p : List Int → Bool} {l : List (List Int)} (hok : okFunc Try.prog f = true) (hids : V.idsL cap = []) (hg : ∀ t ∈ l, DP Try.prog f (vInts t :: cap) fun r => r = .bool (p t)) (hl : l.length ≤ maxLen) :
    Pf Try.prog slices_ContainsFunc_LLint_Lint.id [vIntss l, .fn (.func f) [] cap] (.bool (l.any p)) := by
  refine DC.of slices_ContainsFunc_LLint_Lint.ok (by simp) ?_
  simp [slices_ContainsFunc_LLint_Lint.ir, slices_ContainsFunc_LLint_Lint.rs, vIntss, hids]
  refine (index_ints_spec hok hids hg hl).use ?_
  simp [firstAt_any]

theorem index_var_spec {f : FuncId} {cap : List V} {p : Var → Bool} {l : List (Var)} (hok : okFunc Try.prog f = true) (hids : V.idsL cap = []) (hg : ∀ t ∈ l, DP Try.prog f (.agg t.cells :: cap) fun r => r = .bool (p t)) (hl : l.length ≤ maxLen) :
    Pf Try.prog slices_IndexFunc_Lapi_Var_api_Var.id [vVars l, .fn (.func f) [] cap] (V.i (firstAt p 0 l)) := by
  have hm : (maxLen : Int) ≤ 9223372036854775807 := by decide
  refine DC.of slices_IndexFunc_Lapi_Var_api_Var.ok (by simp) ?_
  simp [slices_IndexFunc_Lapi_Var_api_Var.ir, slices_IndexFunc_Lapi_Var_api_Var.rs, vVars]
  refine WI.loop 0 (by simp) (fun s => ∃ i, i ≤ l.length ∧ gt s.sl 1 = .fn (.func f) [] cap ∧ gt s.sl 0 = vVars l ∧ gt s.sl 7 = V.i l.length ∧ gt s.sl 8 = V.i i ∧ s.hp = [] ∧ firstAt p 0 l = firstAt p i (l.drop i)) (fun s => (l.length - (gt s.sl 8).num).toNat) ?_ ?_
  · exact ⟨0, by simp [vVars]⟩
  · rintro ⟨sl, hp, bs⟩ ⟨i, hi, h1, h0, h7, h8, rfl, he⟩
    by_cases hil : i < l.length
    · simp [slices_IndexFunc_Lapi_Var_api_Var.b0, h1, h0, h7, h8, vVars, Var.cells, hil, hok, hids]
      refine DP.mono (hg _ (List.getElem_mem hil)) fun r hr => ?_
      subst hr
      rw [firstAt_drop p hil] at he
      have hw : IntKind.i64.wrap ((i : Int) + 1) = ((i + 1 : Nat) : Int) := by rw [wrap64] <;> omega
      cases hp : p l[i]
      · simp [hw, he, hp]
        exact ⟨⟨i + 1, by omega, by omega, rfl⟩, by omega⟩
      · simp [he, hp]
    · obtain rfl : i = l.length := by omega
      simp [slices_IndexFunc_Lapi_Var_api_Var.b0, h1, h0, h7, h8, he, firstAt]

theorem contains_var_spec {f : FuncId} {cap : List V} {p : Var → Bool} {l : List (Var)} (hok : okFunc Try.prog f = true) (hids : V.idsL cap = []) (hg : ∀ t ∈ l, DP Try.prog f (.agg t.cells :: cap) fun r => r = .bool (p t)) (hl : l.length ≤ maxLen) :
    Pf Try.prog slices_ContainsFunc_Lapi_Var_api_Var.id [vVars l, .fn (.func f) [] cap] (.bool (l.any p)) := by
  refine DC.of slices_ContainsFunc_Lapi_Var_api_Var.ok (by simp) ?_
  simp [slices_ContainsFunc_Lapi_Var_api_Var.ir, slices_ContainsFunc_Lapi_Var_api_Var.rs, vVars, hids]
  refine (index_var_spec hok hids hg hl).use ?_
  simp [firstAt_any]

end Go.Abs.G



namespace Go.Abs.G
open Go.Proofs
attribute [local simp] I.vc sub merge place
set_option linter.unusedVariables false
theorem any_take_succ {α : Type} (p : α → Bool) {l : List α} {i : Nat} (h : i < l.length) : (l.take (i + 1)).any p = ((l.take i).any p || p l[i]) := by
  rw [List.take_succ_eq_append_getElem h, List.any_append]; simp

theorem terms_spec (l : List Term) (vars : Int) (hl : l.length ≤ maxLen) :
    Pf Try.prog model_terms.id [vTerms l, V.i vars] (.tup [.bool (badVarB vars l), .bool (badCoefB l)]) := by
  have hm : (maxLen : Int) ≤ 9223372036854775807 := by decide
  refine DC.of model_terms.ok (by simp) ?_
  simp [model_terms.ir, model_terms.rs, vTerms]
  refine WI.loop 0 (by simp) (fun s => ∃ i, i ≤ l.length ∧ gt s.sl 1 = V.i vars ∧ gt s.sl 4 = .bool (badVarB vars (l.take i)) ∧ gt s.sl 5 = .bool (badCoefB (l.take i)) ∧ gt s.sl 8 = vTerms l ∧ gt s.sl 9 = V.i l.length ∧ gt s.sl 10 = V.i i ∧ s.hp = []) (fun s => (l.length - (gt s.sl 10).num).toNat) ?_ ?_
  · exact ⟨0, by simp [vTerms, badVarB, badCoefB]⟩
  · rintro ⟨sl, hp, bs⟩ ⟨i, hi, h1, h4, h5, h8, h9, h10, rfl⟩
    by_cases hil : i < l.length
    · have e1 : badVarB vars (l.take (i + 1)) = (badVarB vars (l.take i) || (decide (l[i].x < 0) || decide (vars ≤ l[i].x))) := any_take_succ _ hil
      have e2 : badCoefB (l.take (i + 1)) = (badCoefB (l.take i) || (decide (l[i].c = 0) || !withinB l[i].c 1000000)) := any_take_succ _ hil
      have hw : IntKind.i64.wrap ((i : Int) + 1) = ((i + 1 : Nat) : Int) := by rw [wrap64] <;> omega
      have g10 := h10
      unfold model_terms.b0
      refine vc_cut (fun s => gt s.sl 1 = V.i vars ∧ gt s.sl 4 = .bool (badVarB vars (l.take i)) ∧ gt s.sl 5 = .bool (badCoefB (l.take i)) ∧ gt s.sl 8 = vTerms l ∧ gt s.sl 9 = V.i l.length ∧ gt s.sl 10 = V.i i ∧ gt s.sl 11 = V.bool true ∧ s.hp = []) (by simp [h1, h4, h5, h8, h9, h10, hil]) ?_
      rintro ⟨sl, hp, bs⟩ ⟨h1, h4, h5, h8, h9, h10, h11, rfl⟩
      refine vc_cut (fun s => gt s.sl 1 = V.i vars ∧ gt s.sl 4 = .bool (badVarB vars (l.take i)) ∧ gt s.sl 5 = .bool (badCoefB (l.take i)) ∧ gt s.sl 8 = vTerms l ∧ gt s.sl 9 = V.i l.length ∧ gt s.sl 10 = V.i i ∧ s.hp = []) (by simp [h1, h4, h5, h8, h9, h10, h11, hil]) ?_
      rintro ⟨sl, hp, bs⟩ ⟨h1, h4, h5, h8, h9, h10, rfl⟩
      refine vc_cut (fun s => gt s.sl 1 = V.i vars ∧ gt s.sl 4 = .bool (badVarB vars (l.take (i + 1))) ∧ gt s.sl 5 = .bool (badCoefB (l.take (i + 1))) ∧ gt s.sl 8 = vTerms l ∧ gt s.sl 9 = V.i l.length ∧ gt s.sl 10 = V.i i ∧ s.hp = [.mem false [] [l[i].cells]]) (vc_block_of ?_) ?_
      · refine vc_cut (fun s => gt s.sl 1 = V.i vars ∧ gt s.sl 4 = .bool (badVarB vars (l.take i)) ∧ gt s.sl 5 = .bool (badCoefB (l.take i)) ∧ gt s.sl 7 = .ptr 0 1 0 0 ∧ gt s.sl 8 = vTerms l ∧ gt s.sl 9 = V.i l.length ∧ gt s.sl 10 = V.i i ∧ s.hp = [.mem false [] [l[i].cells]]) (by simp [h1, h4, h5, h8, h9, h10, vTerms, Term.cells, hil]) ?_
        rintro ⟨sl, hp, bs⟩ ⟨h1, h4, h5, h7, h8, h9, h10, rfl⟩
        refine vc_cut (fun s => gt s.sl 1 = V.i vars ∧ gt s.sl 4 = .bool (badVarB vars (l.take (i + 1))) ∧ gt s.sl 5 = .bool (badCoefB (l.take i)) ∧ gt s.sl 7 = .ptr 0 1 0 0 ∧ gt s.sl 8 = vTerms l ∧ gt s.sl 9 = V.i l.length ∧ gt s.sl 10 = V.i i ∧ s.hp = [.mem false [] [l[i].cells]]) ?_ ?_
        · rw [e1]
          simp [h1, h4, h5, h7, h8, h9, h10, vTerms, Term.cells]
          cases badVarB vars (l.take i) <;> simp
          by_cases hx : l[i].x < 0 <;> simp [hx] <;> omega
        rintro ⟨sl, hp, bs⟩ ⟨h1, h4, h5, h7, h8, h9, h10, rfl⟩
        rw [e2]
        simp [h1, h4, h5, h7, h8, h9, h10, vTerms, Term.cells]
        cases badCoefB (l.take i) <;> simp
        by_cases hx : l[i].c = 0 <;> simp [hx]
        refine (within_spec l[i].c 1000000 (by decide) (by decide)).use ?_
        simp
      · rintro ⟨sl, hp, bs⟩ ⟨h1, h4, h5, h8, h9, h10, rfl⟩
        simp [h1, h4, h5, h8, h9, h10, hw, vTerms, g10]
        exact ⟨⟨i + 1, by omega, rfl, rfl, by omega⟩, by omega⟩
    · obtain rfl : i = l.length := by omega
      simp [model_terms.b0, h1, h4, h5, h8, h9, h10]

theorem wide1_spec (r : List Int) (c : Con) : Pf Try.prog model_wide_1.id [vInts r, .ref c.cells 0] (.bool (decide (r.length ≠ c.xs.length))) := by
  refine DC.of model_wide_1.ok (by simp) ?_
  simp [model_wide_1.ir, model_wide_1.rs, vInts, Con.cells, vTerms, vIntss]
  by_cases h : r.length = c.xs.length <;> simp [h]
  omega

theorem byteArray_ext {s t : ByteArray} (h : s.toList = t.toList) : s = t := by
  have hs : ∀ a : ByteArray, a.toList = a.data.toList := fun a => ByteArray.toList_eq a
  rw [hs, hs] at h
  exact ByteArray.ext (Array.ext' h)

theorem variable1_spec (w v : Var) : Pf Try.prog model_variable_1.id [.agg w.cells, .ref v.cells 0] (.bool (decide (w.name = v.name))) := by
  refine DC.of model_variable_1.ok (by simp) ?_
  simp [model_variable_1.ir, model_variable_1.rs, Var.cells]
  by_cases h : w.name = v.name <;> simp [h]
  exact fun h' => h (byteArray_ext h')

end Go.Abs.G



namespace Go.Abs.G
open Go.Proofs
attribute [local simp] I.vc sub merge place
set_option linter.unusedVariables false

theorem wide_spec (c : Con) (n : Needs) (f : FuncId) (hr : c.rows.length ≤ maxLen) : Pf Try.prog model_wide.id [.agg c.cells, .agg (n.cells f)] (.bool (wideB c n)) := by
  refine DC.of model_wide.ok (by simp) ?_
  simp [model_wide.ir, model_wide.rs, wideB, Con.cells, vTerms, vInts, vIntss, Needs.cells]
  by_cases hx : 8 < c.xs.length
  · have hx' : (8 : Int) < c.xs.length := by omega
    cases n.rows <;> simp [hx, hx', Int.not_le.2 hx']
  · have hx' : ¬ (8 : Int) < c.xs.length := by omega
    have hx2 : (c.xs.length : Int) ≤ 8 := by omega
    cases n.rows <;> simp [hx, hx', hx2]
    refine (counts_spec true c.rows.length).use ?_
    simp
    cases hb : countsB true c.rows.length <;> simp
    refine DP.mono (contains_ints_spec (p := fun r => decide (r.length ≠ c.xs.length)) (cap := [.ref c.cells 0]) (by simp) (by simp) (fun t _ => wide1_spec t c) hr) fun r hr => ?_
    subst hr
    simp

theorem fieldB_eq (c : Con) (n : Needs) : fieldB c n = (decide (¬ ((if n.op then 0 else c.op) = 0 ∧ (if n.k then 0 else c.k) = 0 ∧ (if n.v then 0 else c.v) = 0 ∧ (if n.x then 0 else c.x) = 0 ∧ (if n.y then 0 else c.y) = 0)) || (!n.terms && decide (0 < c.terms.length)) || (!n.xs && decide (0 < c.xs.length)) || (!n.table && decide (0 < c.table.length)) || (!n.rows && decide (0 < c.rows.length))) := by
  have key : ((!n.op && decide (c.op ≠ 0)) || (!n.k && decide (c.k ≠ 0)) || (!n.v && decide (c.v ≠ 0)) || (!n.x && decide (c.x ≠ 0)) || (!n.y && decide (c.y ≠ 0))) = decide (¬ ((if n.op then 0 else c.op) = 0 ∧ (if n.k then 0 else c.k) = 0 ∧ (if n.v then 0 else c.v) = 0 ∧ (if n.x then 0 else c.x) = 0 ∧ (if n.y then 0 else c.y) = 0)) := by
    cases n.op <;> cases n.k <;> cases n.v <;> cases n.x <;> cases n.y <;> rw [Bool.eq_iff_iff] <;> simp <;> omega
  unfold fieldB
  rw [key]

theorem field_spec (c : Con) (n : Needs) (f : FuncId) : Pf Try.prog model_field.id [.agg c.cells, .agg (n.cells f)] (.bool (fieldB c n)) := by
  refine DC.of model_field.ok (by simp) ?_
  unfold model_field.ir
  have hc : (V.agg c.cells).sized [] 10 := by simp [Con.cells, vTerms, vInts, vIntss]
  refine vc_cut (fun s => gt s.sl 2 = .ptr 0 1 0 0 ∧ gt s.sl 3 = .ptr 1 1 0 0 ∧ s.hp = [.mem false [] [c.cells], .mem false [] [n.cells f]]) (by simp [Con.cells, vTerms, vInts, vIntss, Needs.cells]) ?_
  rintro ⟨sl, hp, bs⟩ ⟨h2, h3, rfl⟩
  refine vc_cut (fun s => gt s.sl 2 = .ptr 0 1 0 0 ∧ gt s.sl 3 = .ptr 1 1 0 0 ∧ gt s.sl 5 = .ptr 2 1 0 0 ∧ s.hp = [.mem false [] [c.cells], .mem false [] [n.cells f], .mem false [] [[V.i c.op, V.i c.k, V.i c.v, V.i c.x, V.i c.y]]]) (by simp [h2, h3, Con.cells, vTerms, vInts, vIntss, Needs.cells]) ?_
  rintro ⟨sl, hp, bs⟩ ⟨h2, h3, h5, rfl⟩
  have key : ∀ (o k v x y : Int), o = (if n.op then 0 else c.op) → True := fun _ _ _ _ _ _ => trivial
  refine vc_cut (fun s => gt s.sl 2 = .ptr 0 1 0 0 ∧ gt s.sl 3 = .ptr 1 1 0 0 ∧ gt s.sl 5 = .ptr 2 1 0 0 ∧ s.hp = [.mem false [] [c.cells], .mem false [] [n.cells f], .mem false [] [[V.i (if n.op then 0 else c.op), V.i c.k, V.i c.v, V.i c.x, V.i c.y]]]) (by cases hb : n.op <;> simp [h2, h3, h5, Con.cells, vTerms, vInts, vIntss, Needs.cells, hb]) ?_
  rintro ⟨sl, hp, bs⟩ ⟨h2, h3, h5, rfl⟩
  refine vc_cut (fun s => gt s.sl 2 = .ptr 0 1 0 0 ∧ gt s.sl 3 = .ptr 1 1 0 0 ∧ gt s.sl 5 = .ptr 2 1 0 0 ∧ s.hp = [.mem false [] [c.cells], .mem false [] [n.cells f], .mem false [] [[V.i (if n.op then 0 else c.op), V.i c.k, V.i (if n.v then 0 else c.v), V.i c.x, V.i c.y]]]) (by cases hb : n.v <;> simp [h2, h3, h5, Con.cells, vTerms, vInts, vIntss, Needs.cells, hb]) ?_
  rintro ⟨sl, hp, bs⟩ ⟨h2, h3, h5, rfl⟩
  refine vc_cut (fun s => gt s.sl 2 = .ptr 0 1 0 0 ∧ gt s.sl 3 = .ptr 1 1 0 0 ∧ gt s.sl 5 = .ptr 2 1 0 0 ∧ s.hp = [.mem false [] [c.cells], .mem false [] [n.cells f], .mem false [] [[V.i (if n.op then 0 else c.op), V.i (if n.k then 0 else c.k), V.i (if n.v then 0 else c.v), V.i c.x, V.i c.y]]]) (by cases hb : n.k <;> simp [h2, h3, h5, Con.cells, vTerms, vInts, vIntss, Needs.cells, hb]) ?_
  rintro ⟨sl, hp, bs⟩ ⟨h2, h3, h5, rfl⟩
  refine vc_cut (fun s => gt s.sl 2 = .ptr 0 1 0 0 ∧ gt s.sl 3 = .ptr 1 1 0 0 ∧ gt s.sl 5 = .ptr 2 1 0 0 ∧ s.hp = [.mem false [] [c.cells], .mem false [] [n.cells f], .mem false [] [[V.i (if n.op then 0 else c.op), V.i (if n.k then 0 else c.k), V.i (if n.v then 0 else c.v), V.i (if n.x then 0 else c.x), V.i c.y]]]) (by cases hb : n.x <;> simp [h2, h3, h5, Con.cells, vTerms, vInts, vIntss, Needs.cells, hb]) ?_
  rintro ⟨sl, hp, bs⟩ ⟨h2, h3, h5, rfl⟩
  refine vc_cut (fun s => gt s.sl 2 = .ptr 0 1 0 0 ∧ gt s.sl 3 = .ptr 1 1 0 0 ∧ gt s.sl 5 = .ptr 2 1 0 0 ∧ s.hp = [.mem false [] [c.cells], .mem false [] [n.cells f], .mem false [] [[V.i (if n.op then 0 else c.op), V.i (if n.k then 0 else c.k), V.i (if n.v then 0 else c.v), V.i (if n.x then 0 else c.x), V.i (if n.y then 0 else c.y)]]]) (by cases hb : n.y <;> simp [h2, h3, h5, Con.cells, vTerms, vInts, vIntss, Needs.cells, hb]) ?_
  rintro ⟨sl, hp, bs⟩ ⟨h2, h3, h5, rfl⟩
  have hf := fieldB_eq c n
  rw [hf]
  generalize (if n.op then 0 else c.op) = o
  generalize (if n.k then 0 else c.k) = k
  generalize (if n.v then 0 else c.v) = v
  generalize (if n.x then 0 else c.x) = x
  generalize (if n.y then 0 else c.y) = y
  generalize hb0 : decide (¬ (o = 0 ∧ k = 0 ∧ v = 0 ∧ x = 0 ∧ y = 0)) = b0
  refine vc_cut (fun s => gt s.sl 4 = .bool (b0 || (!n.terms && decide (0 < c.terms.length)) || (!n.xs && decide (0 < c.xs.length)) || (!n.table && decide (0 < c.table.length)) || (!n.rows && decide (0 < c.rows.length)))) (vc_reg_of ?_) ?_
  · have e : ∀ b0 b : Bool, (b0 || b) = if b0 then true else b := fun b0 b => by cases b0 <;> rfl
    refine vcIts_cut 4 (fun s => gt s.sl 2 = .ptr 0 1 0 0 ∧ gt s.sl 3 = .ptr 1 1 0 0 ∧ gt s.sl 35 = .bool b0 ∧ s.hp = [.mem false [] [c.cells], .mem false [] [n.cells f], .mem false [] [[V.i o, V.i k, V.i v, V.i x, V.i y]]]) ?_ ?_
    · simp [h2, h3, h5, ← hb0]
      rfl
    rintro ⟨sl, hp, bs⟩ ⟨h2, h3, h4, rfl⟩
    refine vcIts_cut 11 (fun s => gt s.sl 2 = .ptr 0 1 0 0 ∧ gt s.sl 3 = .ptr 1 1 0 0 ∧ gt s.sl 46 = .bool (b0 || (!n.terms && decide (0 < c.terms.length))) ∧ s.hp = [.mem false [] [c.cells], .mem false [] [n.cells f], .mem false [] [[V.i o, V.i k, V.i v, V.i x, V.i y]]]) ?_ ?_
    · cases b0 <;> cases hn : n.terms <;> simp [h2, h3, h4, hn, Con.cells, vTerms, vInts, vIntss, Needs.cells]
    generalize (b0 || (!n.terms && decide (0 < c.terms.length))) = b1
    rintro ⟨sl, hp, bs⟩ ⟨h2, h3, h4, rfl⟩
    refine vcIts_cut 11 (fun s => gt s.sl 2 = .ptr 0 1 0 0 ∧ gt s.sl 3 = .ptr 1 1 0 0 ∧ gt s.sl 57 = .bool (b1 || (!n.xs && decide (0 < c.xs.length))) ∧ s.hp = [.mem false [] [c.cells], .mem false [] [n.cells f], .mem false [] [[V.i o, V.i k, V.i v, V.i x, V.i y]]]) ?_ ?_
    · cases b1 <;> cases hn : n.xs <;> simp [h2, h3, h4, hn, Con.cells, vTerms, vInts, vIntss, Needs.cells]
    generalize (b1 || (!n.xs && decide (0 < c.xs.length))) = b2
    rintro ⟨sl, hp, bs⟩ ⟨h2, h3, h4, rfl⟩
    refine vcIts_cut 11 (fun s => gt s.sl 2 = .ptr 0 1 0 0 ∧ gt s.sl 3 = .ptr 1 1 0 0 ∧ gt s.sl 68 = .bool (b2 || (!n.table && decide (0 < c.table.length))) ∧ s.hp = [.mem false [] [c.cells], .mem false [] [n.cells f], .mem false [] [[V.i o, V.i k, V.i v, V.i x, V.i y]]]) ?_ ?_
    · cases b2 <;> cases hn : n.table <;> simp [h2, h3, h4, hn, Con.cells, vTerms, vInts, vIntss, Needs.cells]
    generalize (b2 || (!n.table && decide (0 < c.table.length))) = b3
    rintro ⟨sl, hp, bs⟩ ⟨h2, h3, h4, rfl⟩
    cases b3 <;> cases hn : n.rows <;> simp [h2, h3, h4, hn, Con.cells, vTerms, vInts, vIntss, Needs.cells]
  · rintro ⟨sl, hp, bs⟩ h4
    simp [h4, model_field.rs]
end Go.Abs.G



namespace Go.Abs.G
open Go.Proofs
attribute [local simp] I.vc sub merge place
set_option linter.unusedVariables false

def kindTab : List (Int × Needs × FuncId) := [
  (1, ⟨true, false, false, false, false, false, true, true, false⟩, model_lin.id),
  (2, ⟨false, false, false, false, true, true, true, false, false⟩, model_kinds_1.id),
  (3, ⟨false, true, false, false, false, false, false, false, false⟩, model_allDiff.id),
  (4, ⟨false, false, true, false, true, true, false, false, false⟩, model_element.id),
  (5, ⟨false, true, false, false, false, true, false, false, false⟩, model_kinds_2.id),
  (6, ⟨false, true, false, false, false, true, false, false, false⟩, model_kinds_3.id),
  (7, ⟨true, false, false, false, true, false, true, false, false⟩, model_reif.id),
  (8, ⟨false, true, false, true, false, false, false, false, false⟩, model_table.id),
  (9, ⟨false, true, false, false, false, false, true, true, true⟩, model_count.id)]
def kindEnts : List (V × V) := kindTab.map fun e => (V.i e.1, .agg (e.2.1.cells e.2.2))
def kindsV : V := .mview kindEnts

theorem kindEnts_key : ∀ e ∈ kindEnts, e.1.isKey .i64 = true := by
  intro e he
  obtain ⟨t, _, rfl⟩ := List.mem_map.1 he
  rfl

theorem kindEnts_get (k : Int) : (needs k = none ∧ getE kindEnts k = none) ∨ ∃ n f, needs k = some n ∧ (k, n, f) ∈ kindTab ∧ getE kindEnts k = some (.agg (n.cells f)) := by
  by_cases h1 : k = 1
  · subst h1; exact .inr ⟨_, _, rfl, by simp [kindTab], rfl⟩
  by_cases h2 : k = 2
  · subst h2; exact .inr ⟨_, _, rfl, by simp [kindTab], rfl⟩
  by_cases h3 : k = 3
  · subst h3; exact .inr ⟨_, _, rfl, by simp [kindTab], rfl⟩
  by_cases h4 : k = 4
  · subst h4; exact .inr ⟨_, _, rfl, by simp [kindTab], rfl⟩
  by_cases h5 : k = 5
  · subst h5; exact .inr ⟨_, _, rfl, by simp [kindTab], rfl⟩
  by_cases h6 : k = 6
  · subst h6; exact .inr ⟨_, _, rfl, by simp [kindTab], rfl⟩
  by_cases h7 : k = 7
  · subst h7; exact .inr ⟨_, _, rfl, by simp [kindTab], rfl⟩
  by_cases h8 : k = 8
  · subst h8; exact .inr ⟨_, _, rfl, by simp [kindTab], rfl⟩
  by_cases h9 : k = 9
  · subst h9; exact .inr ⟨_, _, rfl, by simp [kindTab], rfl⟩
  · refine .inl ⟨by simp [needs, *], ?_⟩
    simp [kindEnts, kindTab, getE]
    omega

theorem kinds_spec : Pf Try.prog model_kinds.id [] kindsV := by
  refine DC.of model_kinds.ok (by simp) ?_
  simp [model_kinds.ir, model_kinds.rs, kindsV, kindEnts, kindTab, Needs.cells, V.isKey]

theorem con1_spec (x vars : Int) : Pf Try.prog model_con_1.id [V.i x, .ref [V.i vars] 0] (.bool (noB vars x)) := by
  refine DC.of model_con_1.ok (by simp) ?_
  by_cases h : x < 0 <;> simp [model_con_1.ir, model_con_1.rs, noB, h]

def zeroNeeds : List V := [.bool false, .bool false, .bool false, .bool false, .bool false, .bool false, .bool false, .bool false, .bool false, .a .nilFunc]

theorem con_look (c : Con) (vars : Int) : vc Try.prog (.reg 1 [.o 1 (.lt (some 12) (.fad (.tmp 2) 0)),
    .o 2 (.lt (some 13) (.ld false 1 (.tmp 12))),
    .o 0 (.call (some 11) model_kinds.id []),
    .o 3 (.lt (some 14) (.lkp true .i64 (.agg [.a (.bool false), .a (.bool false), .a (.bool false), .a (.bool false), .a (.bool false), .a (.bool false), .a (.bool false), .a (.bool false), .a (.bool false), .a (.nilFunc)]) (.tmp 11) (.tmp 13))),
    .o 4 (.lt (some 10) (.mov (.tmp 14))),
    .o 5 (.lt (some 15) (.ext (.tmp 10) 0)),
    .o 6 (.lt (some 16) (.ext (.tmp 10) 1)),
    .o 7 (.alloc (some 5) 0 10 [.a (.bool false), .a (.bool false), .a (.bool false), .a (.bool false), .a (.bool false), .a (.bool false), .a (.bool false), .a (.bool false), .a (.bool false), .a (.nilFunc)]),
    .o 8 (.store [] 10 (.tmp 5) (.tmp 15)),
    .o 9 (.lt (some 6) (.mov (.tmp 16))),
    .g (.keep [2, 3, 5, 6])]) (fun e s => match e with
      | .norm => gt s.sl 2 = .ptr 0 1 0 0 ∧ gt s.sl 3 = .ptr 1 1 0 0 ∧ gt s.sl 5 = .ptr 2 1 0 0 ∧ ((needs c.kind = none ∧ gt s.sl 6 = .bool false ∧ s.hp = [.mem false [] [c.cells], .mem false [] [[V.i vars]], .mem false [] [zeroNeeds]]) ∨
          ∃ n f, needs c.kind = some n ∧ gt s.sl 6 = .bool true ∧ s.hp = [.mem false [] [c.cells], .mem false [] [[V.i vars]], .mem false [] [n.cells f]])
      | _ => False) ⟨up (up e0 3 (.ptr 1 1 0 0)) 2 (.ptr 0 1 0 0), [.mem false [] [c.cells], .mem false [] [[V.i vars]]], 0⟩ := by
  simp [Con.cells, vTerms, vInts, vIntss]
  refine kinds_spec.use ?_
  have hk := kindEnts_key
  rcases kindEnts_get c.kind with ⟨h1, h2⟩ | ⟨n, f, h1, h2, h3⟩
  · simp [kindsV, h1, h2, zeroNeeds]
    exact ⟨fun a b h => hk _ h, rfl⟩
  · simp [kindsV, h1, h3, Needs.cells]
    exact ⟨fun a b h => hk _ h, rfl⟩

def conSt (c : Con) (vars : Int) (n : Needs) (f : FuncId) (s : St) : Prop :=
  gt s.sl 2 = .ptr 0 1 0 0 ∧ gt s.sl 3 = .ptr 1 1 0 0 ∧ gt s.sl 5 = .ptr 2 1 0 0 ∧ s.hp = [.mem false [] [c.cells], .mem false [] [[V.i vars]], .mem false [] [n.cells f]]

def conSt2 (c : Con) (vars : Int) (n : Needs) (f : FuncId) (s : St) : Prop :=
  gt s.sl 2 = .ptr 0 1 0 0 ∧ gt s.sl 5 = .ptr 2 1 0 0 ∧ gt s.sl 7 = .bool (badVarB vars c.terms) ∧ gt s.sl 8 = .bool (badCoefB c.terms) ∧ gt s.sl 9 = .fn (.func model_con_1.id) [] [.ptr 1 1 0 0] ∧
    s.hp = [.mem false [] [c.cells], .mem false [] [[V.i vars]], .mem false [] [n.cells f]]

theorem con_spec (c : Con) (vars : Int) (hc : okCon c) : Pf Try.prog model_con.id [.agg c.cells, V.i vars] (V.i (conB c vars)) := by
  have hm : (maxLen : Int) ≤ 9223372036854775807 := by decide
  obtain ⟨_, _, ⟨k3, _⟩, _, _, _, _, ⟨k8, k8'⟩, ⟨k9, k9'⟩, k10, k11⟩ := hc
  refine DC.of model_con.ok (by simp) ?_
  unfold model_con.ir
  refine vc_cut (fun s => s = ⟨up (up e0 3 (.ptr 1 1 0 0)) 2 (.ptr 0 1 0 0), [.mem false [] [c.cells], .mem false [] [[V.i vars]]], 0⟩) (by simp [Con.cells, vTerms, vInts, vIntss]) ?_
  rintro _ rfl
  refine vc_cut _ (vc_mono (fun e s hs => by cases e <;> first | exact hs | exact hs.elim) (con_look c vars)) ?_
  rintro ⟨sl, hp, bs⟩ ⟨h2, h3, h5, ⟨hn, h6, rfl⟩ | ⟨n, f, hn, h6, rfl⟩⟩
  · simp [h2, h3, h5, h6, hn, conB, model_con.rs]
  have hcB : conB c vars = conN c vars n := by simp [conB, hn]
  rw [hcB]
  -- the operator
  refine vc_cut (fun s => conSt c vars n f s ∧ (n.op && (decide (c.op < 1) || decide (3 < c.op))) = false) ?_ ?_
  · cases ho : n.op
    · simp [h2, h3, h5, h6, conSt, Needs.cells, ho, Con.cells, vTerms, vInts, vIntss]
    · by_cases h1 : c.op < 1
      · simp [h2, h3, h5, h6, conSt, Needs.cells, ho, Con.cells, vTerms, vInts, vIntss, h1, conN, model_con.rs]
      · by_cases h1' : 3 < c.op <;> simp [h2, h3, h5, h6, conSt, Needs.cells, ho, Con.cells, vTerms, vInts, vIntss, h1, h1', conN, model_con.rs] <;> omega
  rintro ⟨sl, hp, bs⟩ ⟨⟨h2, h3, h5, rfl⟩, b1⟩
  refine vc_cut (fun s => conSt c vars n f s ∧ gt s.sl 7 = .bool (badVarB vars c.terms) ∧ gt s.sl 8 = .bool (badCoefB c.terms)) ?_ ?_
  · simp [h2, h3, h5, Con.cells, vTerms, vInts, vIntss]
    refine (terms_spec c.terms vars k3).use ?_
    simp [conSt, Con.cells, vTerms, vInts, vIntss]
  rintro ⟨sl, hp, bs⟩ ⟨⟨h2, h3, h5, rfl⟩, h7, h8⟩
  refine vc_cut (fun s => conSt2 c vars n f s) ?_ ?_
  · simp [h2, h3, h5, h7, h8, conSt2]
  rintro ⟨sl, hp, bs⟩ ⟨h2, h5, h7, h8, h9, rfl⟩
  refine vc_cut (fun s => conN c vars n = 0) (vc_block_of ?_) ?_
  · refine vc_cut (fun s => conSt2 c vars n f s ∧ gt s.sl 41 = .bool (fieldB c n)) ?_ ?_
    · simp [h2, h5, Needs.cells, Con.cells, vTerms, vInts, vIntss]
      refine (field_spec c n f).use ?_
      simp [h2, h5, h7, h8, h9, conSt2, Needs.cells, Con.cells, vTerms, vInts, vIntss]
    rintro ⟨sl, hp, bs⟩ ⟨⟨h2, h5, h7, h8, h9, rfl⟩, h41⟩
    cases b2 : fieldB c n
    case true => simp [h41, b2, model_con.rs, conN, b1]
    rw [b2] at h41
    rw [vc_cond_false (show St.ev _ (.tmp 41) = _ from h41)]
    refine vc_cut (fun s => conSt2 c vars n f s ∧ gt s.sl 45 = .bool (!countsB n.terms c.terms.length || !countsB n.xs c.xs.length || !countsB n.table c.table.length || wideB c n)) ?_ ?_
    · simp [h2, h5, h7, h8, h9, Needs.cells, Con.cells, vTerms, vInts, vIntss]
      refine (counts_spec n.terms c.terms.length).use ?_
      cases countsB n.terms c.terms.length
      · simp [conSt2, h2, h5, h7, h8, h9, Needs.cells, Con.cells, vTerms, vInts, vIntss]
      simp [h2, h5, h7, h8, h9, Needs.cells, Con.cells, vTerms, vInts, vIntss]
      refine (counts_spec n.xs c.xs.length).use ?_
      cases countsB n.xs c.xs.length
      · simp [conSt2, h2, h5, h7, h8, h9, Needs.cells, Con.cells, vTerms, vInts, vIntss]
      simp [h2, h5, h7, h8, h9, Needs.cells, Con.cells, vTerms, vInts, vIntss]
      refine (counts_spec n.table c.table.length).use ?_
      cases countsB n.table c.table.length
      · simp [conSt2, h2, h5, h7, h8, h9, Needs.cells, Con.cells, vTerms, vInts, vIntss]
      simp [h2, h5, h7, h8, h9, Needs.cells, Con.cells, vTerms, vInts, vIntss]
      refine (wide_spec c n f k10).use ?_
      simp [conSt2, h2, h5, h7, h8, h9, Needs.cells, Con.cells, vTerms, vInts, vIntss]
    rintro ⟨sl, hp, bs⟩ ⟨⟨h2, h5, h7, h8, h9, rfl⟩, h45⟩
    cases b3 : (!countsB n.terms c.terms.length || !countsB n.xs c.xs.length || !countsB n.table c.table.length || wideB c n)
    case true => rw [b3] at h45; simp [h45, model_con.rs, conN, b1, b2, b3]
    rw [b3] at h45
    rw [vc_cond_false (show St.ev _ (.tmp 45) = _ from h45)]
    refine vc_cut (fun s => gt s.sl 2 = .ptr 0 1 0 0 ∧ gt s.sl 8 = .bool (badCoefB c.terms) ∧ s.hp = [.mem false [] [c.cells], .mem false [] [[V.i vars]], .mem false [] [n.cells f]] ∧
      gt s.sl 70 = .bool (badVarB vars c.terms || (n.x && noB vars c.x) || (n.y && noB vars c.y) || c.xs.any (noB vars))) ?_ ?_
    · cases b0 : badVarB vars c.terms
      case true => rw [b0] at h7; simp [h2, h5, h7, h8, h9, Needs.cells, Con.cells, vTerms, vInts, vIntss]
      rw [b0] at h7
      have last : DP Try.prog slices_ContainsFunc_Lint_int.id [vInts c.xs, .fn (.func model_con_1.id) [] [.ref [V.i vars] 0]] fun r => r = .bool (c.xs.any (noB vars)) :=
        contains_int_spec (p := noB vars) (cap := [.ref [V.i vars] 0]) (by simp) (by simp) (fun t _ => con1_spec t vars) k8
      have last' : ∀ Q : V → Prop, Q (.bool (c.xs.any (noB vars))) → DP Try.prog slices_ContainsFunc_Lint_int.id [.view 1 (List.map (fun n => [V.i n]) c.xs), .fn (.func model_con_1.id) [] [.ref [V.i vars] 0]] Q := fun Q hq => DP.mono last fun r hr => by rw [hr]; exact hq
      have mid : ∀ b : Bool, (n.y && noB vars c.y) = b → True := fun _ _ => trivial
      cases hx : n.x <;> cases hy : n.y <;> simp [h2, h5, h7, h8, h9, Needs.cells, Con.cells, vTerms, vInts, vIntss, hx, hy]
      · exact last' _ (by simp)
      · refine (con1_spec c.y vars).use ?_
        cases noB vars c.y <;> simp
        exact last' _ (by simp)
      · refine (con1_spec c.x vars).use ?_
        cases noB vars c.x <;> simp
        exact last' _ (by simp)
      · refine (con1_spec c.x vars).use ?_
        cases noB vars c.x <;> simp
        refine (con1_spec c.y vars).use ?_
        cases noB vars c.y <;> simp
        exact last' _ (by simp)
    rintro ⟨sl, hp, bs⟩ ⟨h2, h8, rfl, h70⟩
    cases b4 : (badVarB vars c.terms || (n.x && noB vars c.x) || (n.y && noB vars c.y) || c.xs.any (noB vars))
    case true => rw [b4] at h70; simp [h70, model_con.rs, conN, b1, b2, b3, b4]
    rw [b4] at h70
    rw [vc_cond_false (show St.ev _ (.tmp 70) = _ from h70)]
    refine vc_cut (fun s => gt s.sl 2 = .ptr 0 1 0 0 ∧ gt s.sl 92 = .bool (badCoefB c.terms) ∧ s.hp = [.mem false [] [c.cells], .mem false [] [[V.i vars]], .mem false [] [n.cells f]]) (by simp [h2, h8]) ?_
    rintro ⟨sl, hp, bs⟩ ⟨h2, h92, rfl⟩
    cases b5 : badCoefB c.terms
    case true => simp [h92, model_con.rs, conN, b1, b2, b3, b4, b5]
    rw [b5] at h92
    rw [vc_cond_false (show St.ev _ (.tmp 92) = _ from h92)]
    refine vc_cut (fun s => gt s.sl 94 = .bool (!withinB c.k 1000000000 || !withinB c.v 1000000000 || greatB c.table || c.rows.any greatB)) ?_ ?_
    · simp [h2, Needs.cells, Con.cells, vTerms, vInts, vIntss]
      refine (within_spec c.k 1000000000 (by decide) (by decide)).use ?_
      cases withinB c.k 1000000000
      · simp
      simp [h2, Needs.cells, Con.cells, vTerms, vInts, vIntss]
      refine (within_spec c.v 1000000000 (by decide) (by decide)).use ?_
      cases withinB c.v 1000000000
      · simp
      simp [h2, Needs.cells, Con.cells, vTerms, vInts, vIntss]
      refine (great_spec c.table k9).use ?_
      cases greatB c.table
      case true => simp
      simp [h2, Needs.cells, Con.cells, vTerms, vInts, vIntss]
      refine (contains_ints_spec (by simp) (by simp) (fun t ht => great_spec t (k11 t ht).1) k10).use ?_
      simp
    rintro ⟨sl, hp, bs⟩ h94
    cases b6 : (!withinB c.k 1000000000 || !withinB c.v 1000000000 || greatB c.table || c.rows.any greatB)
    case true => rw [b6] at h94; simp [h94, model_con.rs, conN, b1, b2, b3, b4, b5, b6]
    rw [b6] at h94
    simp [h94, conN, b1, b2, b3, b4, b5, b6]
  · rintro ⟨sl, hp, bs⟩ h0
    simp [h0, model_con.rs]
end Go.Abs.G


