import Derived.Test.YtbmcfbemmjojlaaGreatB2
import Derived.Test.YtbmcfbemmjojlaaGreatProg
import Derived.KernelRfl
import GoSem.ClaimChange
import GoSem.ClaimJoined
import Derived.Below
set_option linter.all false
/- Short names of the commonest steps. -/
namespace Go.Abs.G
abbrev zm (j d : Nat) (s : Nat) : It := .o j (.lt (some d) (.mov (.tmp s)))
abbrev ym (j g : Nat) (w : Bool) (d : Nat) (s : Nat) : It := .gd j g w (some d) (.lt (some d) (.mov (.tmp s)))
abbrev zk (j d : Nat) (n : Int) : It := .o j (.lt (some d) (.mov (.const (.int .i64 n))))
abbrev zb (j d : Nat) (b : Bool) : It := .o j (.lt (some d) (.mov (.const (.bool b))))
abbrev yb (j g : Nat) (w : Bool) (d : Nat) (b : Bool) : It := .gd j g w (some d) (.lt (some d) (.mov (.const (.bool b))))
abbrev zl (j d : Nat) (n s : Nat) : It := .o j (.lt (some d) (.ld false n (.tmp s)))
abbrev yl (j g : Nat) (w : Bool) (d : Nat) (n s : Nat) : It := .gd j g w (some d) (.lt (some d) (.ld false n (.tmp s)))
abbrev zL (j d : Nat) (n s : Nat) : It := .o j (.lt (some d) (.ld true n (.tmp s)))
abbrev yL (j g : Nat) (w : Bool) (d : Nat) (n s : Nat) : It := .gd j g w (some d) (.lt (some d) (.ld true n (.tmp s)))
abbrev zf (j d : Nat) (s n : Nat) : It := .o j (.lt (some d) (.fad (.tmp s) n))
abbrev yf (j g : Nat) (w : Bool) (d : Nat) (s n : Nat) : It := .gd j g w (some d) (.lt (some d) (.fad (.tmp s) n))
abbrev zc (j d : Nat) (s : Nat) : It := .o j (.lt (some d) (.nilc (.tmp s)))
abbrev yc (j g : Nat) (w : Bool) (d : Nat) (s : Nat) : It := .gd j g w (some d) (.lt (some d) (.nilc (.tmp s)))
abbrev zx (j d : Nat) (n s t : Nat) : It := .o j (.lt (some d) (.ixS n (.tmp s) (.tmp t)))
abbrev yx (j g : Nat) (w : Bool) (d : Nat) (n s t : Nat) : It := .gd j g w (some d) (.lt (some d) (.ixS n (.tmp s) (.tmp t)))
abbrev zn (j d : Nat) (s : Nat) : It := .o j (.lt (some d) (.lenSl (.tmp s)))
abbrev yn (j g : Nat) (w : Bool) (d : Nat) (s : Nat) : It := .gd j g w (some d) (.lt (some d) (.lenSl (.tmp s)))
abbrev zq (j d : Nat) (s : Nat) : It := .o j (.lt (some d) (.un .not (.tmp s)))
abbrev yq (j g : Nat) (w : Bool) (d : Nat) (s : Nat) : It := .gd j g w (some d) (.lt (some d) (.un .not (.tmp s)))
abbrev zp (j d : Nat) (s : Nat) (b : Bool) (t : Nat) : It := .o j (.lt (some d) (.pick (.tmp s) (.const (.bool b)) (.tmp t)))
abbrev yp (j g : Nat) (w : Bool) (d : Nat) (s : Nat) (b : Bool) (t : Nat) : It := .gd j g w (some d) (.lt (some d) (.pick (.tmp s) (.const (.bool b)) (.tmp t)))
abbrev zr (j d : Nat) (s t : Nat) (b : Bool) : It := .o j (.lt (some d) (.pick (.tmp s) (.tmp t) (.const (.bool b))))
abbrev yr (j g : Nat) (w : Bool) (d : Nat) (s t : Nat) (b : Bool) : It := .gd j g w (some d) (.lt (some d) (.pick (.tmp s) (.tmp t) (.const (.bool b))))
abbrev za (j d : Nat) (o : BinOp) (s t : Nat) : It := .o j (.lt (some d) (.bin o (.tmp s) (.tmp t)))
abbrev ya (j g : Nat) (w : Bool) (d : Nat) (o : BinOp) (s t : Nat) : It := .gd j g w (some d) (.lt (some d) (.bin o (.tmp s) (.tmp t)))
abbrev zd (j d : Nat) (o : BinOp) (s : Nat) (n : Int) : It := .o j (.lt (some d) (.bin o (.tmp s) (.const (.int .i64 n))))
abbrev yd (j g : Nat) (w : Bool) (d : Nat) (o : BinOp) (s : Nat) (n : Int) : It := .gd j g w (some d) (.lt (some d) (.bin o (.tmp s) (.const (.int .i64 n))))
abbrev ze (j d : Nat) (s n : Nat) : It := .o j (.lt (some d) (.ext (.tmp s) n))
abbrev zz (j d : Nat) (n : Nat) (b : Bool) (s : Nat) : It := .o j (.lt (some d) (.eqZ n b (.tmp s)))
abbrev yz (j g : Nat) (w : Bool) (d : Nat) (n : Nat) (b : Bool) (s : Nat) : It := .gd j g w (some d) (.lt (some d) (.eqZ n b (.tmp s)))
abbrev zy (j d : Nat) (b : Bool) (s t : Nat) : It := .o j (.lt (some d) (.eqB b (.tmp s) (.tmp t)))
abbrev rk (l : List Nat) : RA := { gs := [], keep := some l }
abbrev rp (l : List Nat) (a : List (Nat × List Nat)) : RA := { gs := [], keep := some l, aps := a }
abbrev ro (l : List Nat) (o : List Nat) : RA := { gs := [], keep := some l, ord := o }
abbrev rq (l : List Nat) (o : List Nat) (a : List (Nat × List Nat)) : RA := { gs := [], keep := some l, ord := o, aps := a }
end Go.Abs.G

namespace Go.Abs.G
open Go.Proofs
set_option linter.unusedVariables false
-- slices.Sort[[]int,int]
-- slices.pdqsortOrdered[int]
-- math/bits.Len
-- slices.insertionSortOrdered[int]
-- slices.heapSortOrdered[int]
-- slices.breakPatternsOrdered[int]
-- slices.choosePivotOrdered[int]
-- slices.reverseRangeOrdered[int]
-- slices.partialInsertionSortOrdered[int]
-- cmp.Less[int]
-- slices.partitionEqualOrdered[int]
-- slices.partitionOrdered[int]
-- math/bits.Len32
-- math/bits.Len64
-- slices.siftDownOrdered[int]
-- slices.nextPowerOfTwo
-- (*slices.xorshift).Next
-- slices.medianAdjacentOrdered[int]
-- slices.medianOrdered[int]
-- cmp.isNaN[int]
-- slices.order2Ordered[int]
end Go.Abs.G

namespace Go.Abs.G
open Go.Proofs
set_option linter.unusedVariables false
def hallmarklaw17_BranchParts.id : FuncId := 4
@[simp] theorem hallmarklaw17_BranchParts.okf : okFunc Tryz.prog hallmarklaw17_BranchParts.id = true := by kernel_rfl
def hallmarklaw17_known.id : FuncId := 5
@[simp] theorem hallmarklaw17_known.okf : okFunc Tryz.prog hallmarklaw17_known.id = true := by kernel_rfl
def hallmarklaw17_small.id : FuncId := 6
@[simp] theorem hallmarklaw17_small.okf : okFunc Tryz.prog hallmarklaw17_small.id = true := by kernel_rfl
def hallmarklaw17_stores.id : FuncId := 7
@[simp] theorem hallmarklaw17_stores.okf : okFunc Tryz.prog hallmarklaw17_stores.id = true := by kernel_rfl
def branch_Pick.id : FuncId := 8
@[simp] theorem branch_Pick.okf : okFunc Tryz.prog branch_Pick.id = true := by kernel_rfl
def dom_Store_Open.id : FuncId := 10
@[simp] theorem dom_Store_Open.okf : okFunc Tryz.prog dom_Store_Open.id = true := by kernel_rfl
def dom_Store_Copy.id : FuncId := 11
@[simp] theorem dom_Store_Copy.okf : okFunc Tryz.prog dom_Store_Copy.id = true := by kernel_rfl
def dom_Store_Cut.id : FuncId := 12
@[simp] theorem dom_Store_Cut.okf : okFunc Tryz.prog dom_Store_Cut.id = true := by kernel_rfl
def dom_Store_Size.id : FuncId := 13
@[simp] theorem dom_Store_Size.okf : okFunc Tryz.prog dom_Store_Size.id = true := by kernel_rfl
def dom_Store_Values.id : FuncId := 14
@[simp] theorem dom_Store_Values.okf : okFunc Tryz.prog dom_Store_Values.id = true := by kernel_rfl
def dom_Store_Has.id : FuncId := 15
@[simp] theorem dom_Store_Has.okf : okFunc Tryz.prog dom_Store_Has.id = true := by kernel_rfl
def dom_Store_Hi.id : FuncId := 16
@[simp] theorem dom_Store_Hi.okf : okFunc Tryz.prog dom_Store_Hi.id = true := by kernel_rfl
def dom_Store_Lo.id : FuncId := 17
@[simp] theorem dom_Store_Lo.okf : okFunc Tryz.prog dom_Store_Lo.id = true := by kernel_rfl
def dom_New.id : FuncId := 18
@[simp] theorem dom_New.okf : okFunc Tryz.prog dom_New.id = true := by kernel_rfl
def branch_New.id : FuncId := 19
@[simp] theorem branch_New.okf : okFunc Tryz.prog branch_New.id = true := by kernel_rfl
def branch_list_Next.id : FuncId := 20
@[simp] theorem branch_list_Next.okf : okFunc Tryz.prog branch_list_Next.id = true := by kernel_rfl
def hallmarkref11_New.id : FuncId := 21
@[simp] theorem hallmarkref11_New.okf : okFunc Tryz.prog hallmarkref11_New.id = true := by kernel_rfl
def hallmarkref11_Store_Cut.id : FuncId := 22
@[simp] theorem hallmarkref11_Store_Cut.okf : okFunc Tryz.prog hallmarkref11_Store_Cut.id = true := by kernel_rfl
def branch_divided.id : FuncId := 23
@[simp] theorem branch_divided.okf : okFunc Tryz.prog branch_divided.id = true := by kernel_rfl
def slices_Clone_Ldom_domain_dom_domain.id : FuncId := 28
@[simp] theorem slices_Clone_Ldom_domain_dom_domain.okf : okFunc Tryz.prog slices_Clone_Ldom_domain_dom_domain.id = true := by kernel_rfl
def dom_Store_is.id : FuncId := 29
@[simp] theorem dom_Store_is.okf : okFunc Tryz.prog dom_Store_is.id = true := by kernel_rfl
def dom_goes.id : FuncId := 30
@[simp] theorem dom_goes.okf : okFunc Tryz.prog dom_goes.id = true := by kernel_rfl
def dom_set_drop.id : FuncId := 31
@[simp] theorem dom_set_drop.okf : okFunc Tryz.prog dom_set_drop.id = true := by kernel_rfl
def dom_set_size.id : FuncId := 32
@[simp] theorem dom_set_size.okf : okFunc Tryz.prog dom_set_size.id = true := by kernel_rfl
def dom_set_has.id : FuncId := 33
@[simp] theorem dom_set_has.okf : okFunc Tryz.prog dom_set_has.id = true := by kernel_rfl
def model_Check.id : FuncId := 34
@[simp] theorem model_Check.okf : okFunc Tryz.prog model_Check.id = true := by kernel_rfl
def slices_Clone_Lint_int.id : FuncId := 35
@[simp] theorem slices_Clone_Lint_int.okf : okFunc Tryz.prog slices_Clone_Lint_int.id = true := by kernel_rfl
def hallmarkref4_Check.id : FuncId := 36
@[simp] theorem hallmarkref4_Check.okf : okFunc Tryz.prog hallmarkref4_Check.id = true := by kernel_rfl
def hallmarkref11_Store_is.id : FuncId := 37
@[simp] theorem hallmarkref11_Store_is.okf : okFunc Tryz.prog hallmarkref11_Store_is.id = true := by kernel_rfl
def hallmarkref11_Goes.id : FuncId := 38
@[simp] theorem hallmarkref11_Goes.okf : okFunc Tryz.prog hallmarkref11_Goes.id = true := by kernel_rfl
def math_bits_OnesCount32.id : FuncId := 39
@[simp] theorem math_bits_OnesCount32.okf : okFunc Tryz.prog math_bits_OnesCount32.id = true := by kernel_rfl
def model_variable.id : FuncId := 40
@[simp] theorem model_variable.okf : okFunc Tryz.prog model_variable.id = true := by kernel_rfl
def model_con.id : FuncId := 41
@[simp] theorem model_con.okf : okFunc Tryz.prog model_con.id = true := by kernel_rfl
def model_goal.id : FuncId := 42
@[simp] theorem model_goal.okf : okFunc Tryz.prog model_goal.id = true := by kernel_rfl
def hallmarkref4_vars.id : FuncId := 43
@[simp] theorem hallmarkref4_vars.okf : okFunc Tryz.prog hallmarkref4_vars.id = true := by kernel_rfl
def hallmarkref4_Con.id : FuncId := 44
@[simp] theorem hallmarkref4_Con.okf : okFunc Tryz.prog hallmarkref4_Con.id = true := by kernel_rfl
def hallmarkref4_many.id : FuncId := 45
@[simp] theorem hallmarkref4_many.okf : okFunc Tryz.prog hallmarkref4_many.id = true := by kernel_rfl
def hallmarkref4_terms.id : FuncId := 46
@[simp] theorem hallmarkref4_terms.okf : okFunc Tryz.prog hallmarkref4_terms.id = true := by kernel_rfl
def model_isName.id : FuncId := 47
@[simp] theorem model_isName.okf : okFunc Tryz.prog model_isName.id = true := by kernel_rfl
def slices_ContainsFunc_Lapi_Var_api_Var.id : FuncId := 48
@[simp] theorem slices_ContainsFunc_Lapi_Var_api_Var.okf : okFunc Tryz.prog slices_ContainsFunc_Lapi_Var_api_Var.id = true := by kernel_rfl
def model_variable_1.id : FuncId := 49
@[simp] theorem model_variable_1.okf : okFunc Tryz.prog model_variable_1.id = true := by kernel_rfl
def model_within.id : FuncId := 50
@[simp] theorem model_within.okf : okFunc Tryz.prog model_within.id = true := by kernel_rfl
def model_kinds.id : FuncId := 51
@[simp] theorem model_kinds.okf : okFunc Tryz.prog model_kinds.id = true := by kernel_rfl
def model_terms.id : FuncId := 52
@[simp] theorem model_terms.okf : okFunc Tryz.prog model_terms.id = true := by kernel_rfl
def model_con_1.id : FuncId := 53
@[simp] theorem model_con_1.okf : okFunc Tryz.prog model_con_1.id = true := by kernel_rfl
def model_field.id : FuncId := 54
@[simp] theorem model_field.okf : okFunc Tryz.prog model_field.id = true := by kernel_rfl
def model_counts.id : FuncId := 55
@[simp] theorem model_counts.okf : okFunc Tryz.prog model_counts.id = true := by kernel_rfl
def model_wide.id : FuncId := 56
@[simp] theorem model_wide.okf : okFunc Tryz.prog model_wide.id = true := by kernel_rfl
def slices_ContainsFunc_Lint_int.id : FuncId := 57
@[simp] theorem slices_ContainsFunc_Lint_int.okf : okFunc Tryz.prog slices_ContainsFunc_Lint_int.id = true := by kernel_rfl
def model_great.id : FuncId := 58
@[simp] theorem model_great.okf : okFunc Tryz.prog model_great.id = true := by kernel_rfl
def slices_ContainsFunc_LLint_Lint.id : FuncId := 59
@[simp] theorem slices_ContainsFunc_LLint_Lint.okf : okFunc Tryz.prog slices_ContainsFunc_LLint_Lint.id = true := by kernel_rfl
def hallmarkref4_Name.id : FuncId := 60
@[simp] theorem hallmarkref4_Name.okf : okFunc Tryz.prog hallmarkref4_Name.id = true := by kernel_rfl
def hallmarkref4_Bounds.id : FuncId := 61
@[simp] theorem hallmarkref4_Bounds.okf : okFunc Tryz.prog hallmarkref4_Bounds.id = true := by kernel_rfl
def hallmarkref4_foreign.id : FuncId := 62
@[simp] theorem hallmarkref4_foreign.okf : okFunc Tryz.prog hallmarkref4_foreign.id = true := by kernel_rfl
def hallmarkref4_lists.id : FuncId := 63
@[simp] theorem hallmarkref4_lists.okf : okFunc Tryz.prog hallmarkref4_lists.id = true := by kernel_rfl
def hallmarkref4_rows.id : FuncId := 64
@[simp] theorem hallmarkref4_rows.okf : okFunc Tryz.prog hallmarkref4_rows.id = true := by kernel_rfl
def hallmarkref4_places.id : FuncId := 65
@[simp] theorem hallmarkref4_places.okf : okFunc Tryz.prog hallmarkref4_places.id = true := by kernel_rfl
def hallmarkref4_Number.id : FuncId := 66
@[simp] theorem hallmarkref4_Number.okf : okFunc Tryz.prog hallmarkref4_Number.id = true := by kernel_rfl
def hallmarkref4_Coef.id : FuncId := 67
@[simp] theorem hallmarkref4_Coef.okf : okFunc Tryz.prog hallmarkref4_Coef.id = true := by kernel_rfl
def slices_IndexFunc_Lapi_Var_api_Var.id : FuncId := 68
@[simp] theorem slices_IndexFunc_Lapi_Var_api_Var.okf : okFunc Tryz.prog slices_IndexFunc_Lapi_Var_api_Var.id = true := by kernel_rfl
def model_lin.id : FuncId := 69
@[simp] theorem model_lin.okf : okFunc Tryz.prog model_lin.id = true := by kernel_rfl
def model_kinds_1.id : FuncId := 70
@[simp] theorem model_kinds_1.okf : okFunc Tryz.prog model_kinds_1.id = true := by kernel_rfl
def model_allDiff.id : FuncId := 71
@[simp] theorem model_allDiff.okf : okFunc Tryz.prog model_allDiff.id = true := by kernel_rfl
def model_element.id : FuncId := 72
@[simp] theorem model_element.okf : okFunc Tryz.prog model_element.id = true := by kernel_rfl
def model_kinds_2.id : FuncId := 73
@[simp] theorem model_kinds_2.okf : okFunc Tryz.prog model_kinds_2.id = true := by kernel_rfl
def model_kinds_3.id : FuncId := 76
@[simp] theorem model_kinds_3.okf : okFunc Tryz.prog model_kinds_3.id = true := by kernel_rfl
def model_reif.id : FuncId := 78
@[simp] theorem model_reif.okf : okFunc Tryz.prog model_reif.id = true := by kernel_rfl
def model_table.id : FuncId := 79
@[simp] theorem model_table.okf : okFunc Tryz.prog model_table.id = true := by kernel_rfl
def model_count.id : FuncId := 80
@[simp] theorem model_count.okf : okFunc Tryz.prog model_count.id = true := by kernel_rfl
def model_wide_1.id : FuncId := 81
@[simp] theorem model_wide_1.okf : okFunc Tryz.prog model_wide_1.id = true := by kernel_rfl
def slices_IndexFunc_Lint_int.id : FuncId := 82
@[simp] theorem slices_IndexFunc_Lint_int.okf : okFunc Tryz.prog slices_IndexFunc_Lint_int.id = true := by kernel_rfl
def model_great_1.id : FuncId := 83
@[simp] theorem model_great_1.okf : okFunc Tryz.prog model_great_1.id = true := by kernel_rfl
def slices_IndexFunc_LLint_Lint.id : FuncId := 84
@[simp] theorem slices_IndexFunc_LLint_Lint.okf : okFunc Tryz.prog slices_IndexFunc_LLint_Lint.id = true := by kernel_rfl
def hallmarkref4_letter.id : FuncId := 85
@[simp] theorem hallmarkref4_letter.okf : okFunc Tryz.prog hallmarkref4_letter.id = true := by kernel_rfl
def hallmarkref4_size.id : FuncId := 86
@[simp] theorem hallmarkref4_size.okf : okFunc Tryz.prog hallmarkref4_size.id = true := by kernel_rfl
def hallmarkref4_place.id : FuncId := 87
@[simp] theorem hallmarkref4_place.okf : okFunc Tryz.prog hallmarkref4_place.id = true := by kernel_rfl
-- hallmark/hallmarklaw17.BranchPicks
-- hallmark/hallmarklaw17.BranchParts
def hallmarklaw17_BranchParts.ann : List (Nat × RA) := [(0, rk [1, 2, 3, 4, 5]), (1, rk [1, 2, 3, 4, 5, 33]), (2, rk [10]), (3, rk [1, 2, 3, 4, 5, 41]), (4, rk [10]), (5, rp [2, 3, 4, 11] [(2, [1000002])]), (6, rk [2, 3, 4, 11, 49]), (7, rk [10]), (8, rp [2, 3, 4, 11, 13] [(1, [1000000])]), (9, rp [3, 4, 11, 13, 14, 15, 16] [(2, [1000000])]), (10, rk [3, 4, 11, 13, 14, 15, 16, 63]), (11, rk [10]), (12, rk [3, 4, 11, 13, 14, 15, 65]), (13, rk [10]), (14, rp [3, 4, 11, 13, 14, 15, 17, 18] [(1, [1000000]), (3, [1000000])]), (15, rk [3, 4, 11, 13, 14, 15, 17, 18, 81]), (16, rk [10]), (17, rp [3, 4, 11, 13, 14, 15, 17, 18, 19, 20] [(5, [1000000])]), (18, rp [3, 4, 11, 13, 14, 17, 18, 19, 20, 21, 22] [(4, [1000000])]), (19, rp [3, 4, 11, 13, 14, 17, 18, 137] [(17, [1000000]), (20, [1000000]), (24, [1000000]), (30, [1000000]), (36, [1000000])]), (20, rk [10]), (21, rp [3, 4, 11, 13, 14, 17, 18, 23] [(2, [1000000])]), (22, rk [3, 4, 11, 13, 14, 17, 18, 23, 24]), (23, rk [3, 4, 11, 13, 14, 17, 18, 23, 24, 144]), (24, rk [3, 4, 11, 13, 14, 17, 18, 23, 24]), (25, rq [3, 4, 11, 13, 14, 17, 18, 23, 24, 161] [0, 1, 2, 3, 4, 5, 7, 8, 9, 10, 11, 12, 6, 13, 14] [(6, [1000003, 156, 158]), (13, [1000003])]), (26, rk [10]), (27, rk [4, 11, 13, 25]), (28, rk [4, 11, 13, 25, 26]), (29, rp [4, 11, 13, 25, 26, 27] [(2, [1000000]), (5, [1000000])]), (30, rk [11, 13, 25, 26, 28]), (31, rp [11, 26, 28, 29, 30, 31] [(7, [1000000])]), (32, rp [10] [(10, [1000000])])]
def hallmarklaw17_BranchParts.b0 : C := .seq (.seq (.reg 0 [zm 0 141 24, zm 1 142 23, zn 2 143 142, za 3 144 .lss 141 143, .g (.keep [3, 4, 11, 13, 14, 17, 18, 23, 24, 144])]) (.cond (.tmp 144) (.skip) (.exit 0))) (.seq (.block 1 (.seq (.reg 0 [zm 0 147 17, zm 1 148 14, zm 2 149 23, zm 3 150 24, zx 4 151 1 149 150, zl 5 152 1 151, zm 7 154 18, zm 8 155 14, zm 9 156 23, zm 10 157 24, zx 11 158 1 156 157, zl 12 159 1 158, .o 6 (.calla [156, 158] (some 153) (.func dom_Store_Has.id) [(.tmp 147), (.tmp 148), (.tmp 152)]), .o 13 (.calla [] (some 160) (.func dom_Store_Has.id) [(.tmp 154), (.tmp 155), (.tmp 159)]), zy 14 161 false 153 160, .g (.keep [3, 4, 11, 13, 14, 17, 18, 23, 24, 161])]) (.cond (.tmp 161) (.seq (.reg 0 [zb 0 10 false, .g (.keep [10])]) (.ret)) (.skip)))) (.reg 0 [zm 0 145 24, zd 1 146 .add 145 1, zm 2 24 146, .g (.keep [3, 4, 11, 13, 14, 17, 18, 23, 24])]))
def hallmarklaw17_BranchParts.ir : C := .seq (.reg 1 [.o 0 (.box (some 5) 0 4 (.tmp 0)), zb 1 10 false, .g (.keep [1, 2, 3, 4, 5])]) (.seq (.seq (.reg 0 [.o 0 (.call (some 32) hallmarklaw17_known.id []), zq 1 33 32, .g (.keep [1, 2, 3, 4, 5, 33])]) (.cond (.tmp 33) (.seq (.reg 0 [zb 0 10 false, .g (.keep [10])]) (.ret)) (.skip))) (.seq (.seq (.reg 0 [zL 0 34 4 5, .o 1 (.call (some 35) hallmarklaw17_small.id [(.tmp 34)]), zq 2 36 35, zm 3 37 36, ym 4 37 false 38 1, yn 5 37 false 39 38, yd 6 37 false 40 .gtr 39 300, zp 7 41 37 true 40, .g (.keep [1, 2, 3, 4, 5, 41])]) (.cond (.tmp 41) (.seq (.reg 0 [zb 0 10 true, .g (.keep [10])]) (.ret)) (.skip))) (.seq (.reg 0 [zL 0 43 4 5, zm 1 44 1, .o 2 (.callo (some 45) (.func hallmarklaw17_stores.id) [(.tmp 43), (.tmp 44)]), zm 3 42 45, ze 4 46 42 0, ze 5 47 42 1, zm 6 11 46, zm 7 12 47, .g (.keep [2, 3, 4, 11])]) (.seq (.seq (.reg 0 [zm 0 48 11, zz 1 49 0 false 48, .g (.keep [2, 3, 4, 11, 49])]) (.cond (.tmp 49) (.seq (.reg 0 [zb 0 10 false, .g (.keep [10])]) (.ret)) (.skip))) (.seq (.reg 0 [zm 0 50 11, .o 1 (.callm (some 51) (.func dom_Store_Open.id) [(.tmp 50)]), zm 2 13 51, .g (.keep [2, 3, 4, 11, 13])]) (.seq (.reg 0 [zm 0 53 11, zm 1 54 2, .o 2 (.callm (some 55) (.func branch_Pick.id) [(.tmp 53), (.tmp 54)]), zm 3 52 55, ze 4 56 52 0, ze 5 57 52 1, ze 6 58 52 2, zm 7 14 56, zm 8 15 57, zm 9 16 58, .g (.keep [3, 4, 11, 13, 14, 15, 16])]) (.seq (.seq (.reg 0 [zm 0 59 16, zm 1 60 13, zn 2 61 60, zd 3 62 .gtr 61 0, zy 4 63 true 59 62, .g (.keep [3, 4, 11, 13, 14, 15, 16, 63])]) (.cond (.tmp 63) (.seq (.reg 0 [zb 0 10 false, .g (.keep [10])]) (.ret)) (.skip))) (.seq (.seq (.reg 0 [zm 0 64 16, zq 1 65 64, .g (.keep [3, 4, 11, 13, 14, 15, 65])]) (.cond (.tmp 65) (.seq (.reg 0 [zm 0 66 14, zd 1 67 .eql 66 0, zm 2 68 67, ym 3 68 true 69 15, yd 4 68 true 70 .eql 69 0, zr 5 71 68 70 false, zm 6 10 71, .g (.keep [10])]) (.ret)) (.skip))) (.seq (.reg 0 [zm 0 72 11, .o 1 (.callm (some 73) (.func dom_Store_Copy.id) [(.tmp 72)]), zm 2 74 11, .o 3 (.callm (some 75) (.func dom_Store_Copy.id) [(.tmp 74)]), zm 4 17 73, zm 5 18 75, .g (.keep [3, 4, 11, 13, 14, 15, 17, 18])]) (.seq (.seq (.reg 0 [zm 0 76 17, zz 1 77 0 false 76, zm 2 78 77, ym 3 78 false 79 18, yz 4 78 false 80 0 false 79, zp 5 81 78 true 80, .g (.keep [3, 4, 11, 13, 14, 15, 17, 18, 81])]) (.cond (.tmp 81) (.seq (.reg 0 [zb 0 10 false, .g (.keep [10])]) (.ret)) (.skip))) (.seq (.reg 0 [zm 0 83 17, zm 1 84 14, zm 2 85 15, zd 3 86 .sub 85 1, .o 4 (.lt (some 87) (.build [.a (.int .i64 0), .a (.int .i64 0), .a (.int .i64 0)] [(0, 1, (.const (.int .i64 2))), (1, 1, (.tmp 84)), (2, 1, (.tmp 86))])), .o 5 (.callm (some 88) (.func dom_Store_Cut.id) [(.tmp 83), (.tmp 87)]), zm 6 82 88, ze 7 89 82 0, ze 8 90 82 1, zm 9 19 89, zm 10 20 90, .g (.keep [3, 4, 11, 13, 14, 15, 17, 18, 19, 20])]) (.seq (.reg 0 [zm 0 92 18, zm 1 93 14, zm 2 94 15, .o 3 (.lt (some 95) (.build [.a (.int .i64 0), .a (.int .i64 0), .a (.int .i64 0)] [(0, 1, (.const (.int .i64 1))), (1, 1, (.tmp 93)), (2, 1, (.tmp 94))])), .o 4 (.callm (some 96) (.func dom_Store_Cut.id) [(.tmp 92), (.tmp 95)]), zm 5 91 96, ze 6 97 91 0, ze 7 98 91 1, zm 8 21 97, zm 9 22 98, .g (.keep [3, 4, 11, 13, 14, 17, 18, 19, 20, 21, 22])]) (.seq (.seq (.reg 0 [zm 0 99 19, zq 1 100 99, zm 2 101 100, ym 3 101 false 102 20, yq 4 101 false 103 102, zp 5 104 101 true 103, zm 6 105 104, ym 7 105 false 106 21, yq 8 105 false 107 106, zp 9 108 105 true 107, zm 10 109 108, ym 11 109 false 110 22, yq 12 109 false 111 110, zp 13 112 109 true 111, zm 14 113 112, ym 15 113 false 114 17, ym 16 113 false 115 14, .gd 17 113 false (some 116) (.callm (some 116) (.func dom_Store_Size.id) [(.tmp 114), (.tmp 115)]), ym 18 113 false 117 18, ym 19 113 false 118 14, .gd 20 113 false (some 119) (.callm (some 119) (.func dom_Store_Size.id) [(.tmp 117), (.tmp 118)]), ya 21 113 false 120 .add 116 119, ym 22 113 false 121 11, ym 23 113 false 122 14, .gd 24 113 false (some 123) (.callm (some 123) (.func dom_Store_Size.id) [(.tmp 121), (.tmp 122)]), ya 25 113 false 124 .neq 120 123, zp 26 125 113 true 124, zm 27 126 125, ym 28 126 false 127 17, ym 29 126 false 128 14, .gd 30 126 false (some 129) (.callm (some 129) (.func dom_Store_Size.id) [(.tmp 127), (.tmp 128)]), yd 31 126 false 130 .lss 129 1, zp 32 131 126 true 130, zm 33 132 131, ym 34 132 false 133 18, ym 35 132 false 134 14, .gd 36 132 false (some 135) (.callm (some 135) (.func dom_Store_Size.id) [(.tmp 133), (.tmp 134)]), yd 37 132 false 136 .lss 135 1, zp 38 137 132 true 136, .g (.keep [3, 4, 11, 13, 14, 17, 18, 137])]) (.cond (.tmp 137) (.seq (.reg 0 [zb 0 10 false, .g (.keep [10])]) (.ret)) (.skip))) (.seq (.reg 0 [zm 0 138 11, zm 1 139 14, .o 2 (.callm (some 140) (.func dom_Store_Values.id) [(.tmp 138), (.tmp 139)]), zm 3 23 140, .g (.keep [3, 4, 11, 13, 14, 17, 18, 23])]) (.seq (.seq (.reg 0 [zk 0 24 0, .g (.keep [3, 4, 11, 13, 14, 17, 18, 23, 24])]) (.block 0 (.loop hallmarklaw17_BranchParts.b0))) (.seq (.reg 0 [zm 0 162 3, zm 1 163 13, zn 2 164 163, za 3 165 .rem 162 164, zm 4 166 13, zn 5 167 166, za 6 168 .add 165 167, zm 7 169 13, zn 8 170 169, za 9 171 .rem 168 170, zm 10 25 171, .g (.keep [4, 11, 13, 25])]) (.seq (.reg 0 [zm 0 172 13, zm 1 173 25, zx 2 174 1 172 173, zl 3 175 1 174, zm 4 26 175, .g (.keep [4, 11, 13, 25, 26])]) (.seq (.reg 0 [zm 0 176 11, zm 1 177 26, .o 2 (.callm (some 178) (.func dom_Store_Hi.id) [(.tmp 176), (.tmp 177)]), zm 3 179 11, zm 4 180 26, .o 5 (.callm (some 181) (.func dom_Store_Lo.id) [(.tmp 179), (.tmp 180)]), za 6 182 .sub 178 181, zm 7 27 182, .g (.keep [4, 11, 13, 25, 26, 27])]) (.seq (.reg 0 [zm 0 183 4, zm 1 184 27, za 2 185 .rem 183 184, zm 3 186 27, za 4 187 .add 185 186, zm 5 188 27, za 6 189 .rem 187 188, zm 7 28 189, .g (.keep [11, 13, 25, 26, 28])]) (.seq (.reg 0 [zm 0 191 11, zm 1 192 25, zm 2 193 13, zn 3 194 193, zm 4 195 28, za 5 196 .mul 194 195, za 6 197 .add 192 196, .o 7 (.callm (some 198) (.func branch_Pick.id) [(.tmp 191), (.tmp 197)]), zm 8 190 198, ze 9 199 190 0, ze 10 200 190 1, ze 11 201 190 2, zm 12 29 199, zm 13 30 200, zm 14 31 201, .g (.keep [11, 26, 28, 29, 30, 31])]) (.seq (.reg 0 [zm 0 202 31, zm 1 203 202, ym 2 203 true 204 29, ym 3 203 true 205 26, ya 4 203 true 206 .eql 204 205, zr 5 207 203 206 false, zm 6 208 207, ym 7 208 true 209 30, ym 8 208 true 210 11, ym 9 208 true 211 26, .gd 10 208 true (some 212) (.callm (some 212) (.func dom_Store_Lo.id) [(.tmp 210), (.tmp 211)]), yd 11 208 true 213 .add 212 1, ym 12 208 true 214 28, ya 13 208 true 215 .add 213 214, ya 14 208 true 216 .eql 209 215, zr 15 217 208 216 false, zm 16 10 217, .g (.keep [10])]) (.ret))))))))))))))))))))))
def hallmarklaw17_BranchParts.rs : List Rs := [.sl 10]
theorem hallmarklaw17_BranchParts.ok : isFn Tryz.prog hallmarklaw17_BranchParts.id 218 hallmarklaw17_BranchParts.ann hallmarklaw17_BranchParts.ir hallmarklaw17_BranchParts.rs := ⟨Tryz.f4, _, Tryz.func4, rfl, rfl, by kernel_rfl, by kernel_rfl⟩
-- hallmark/hallmarklaw17.known
def hallmarklaw17_known.ann : List (Nat × RA) := [(0, rk []), (1, rp [1] [(3, [1000004]), (5, [1000002])]), (2, rp [1, 2] [(0, [1000004]), (1, [1000000])]), (3, rp [1, 43] [(10, [1000000]), (17, [1000000]), (24, [1000000])]), (4, rk [0]), (5, rp [1, 3, 4, 5] [(1, [1000000])]), (6, rp [3, 4, 5, 6, 7, 8] [(1, [1000000])]), (7, rk [0])]
def hallmarklaw17_known.ir : C := .seq (.reg 0 [zb 0 0 false, .g (.keep [])]) (.seq (.reg 1 [.o 0 (.lt (some 9) (.build [.a (.string ⟨#[]⟩), .a (.int .i64 0), .a (.int .i64 0)] [(0, 1, (.const (.string { data := #[120] }))), (2, 1, (.const (.int .i64 3)))])), .o 1 (.lt (some 10) (.build [.a (.string ⟨#[]⟩), .a (.int .i64 0), .a (.int .i64 0)] [(0, 1, (.const (.string { data := #[121] }))), (1, 1, (.const (.int .i64 7))), (2, 1, (.const (.int .i64 7)))])), .o 2 (.lt (some 11) (.build [.a (.string ⟨#[]⟩), .a (.int .i64 0), .a (.int .i64 0)] [(0, 1, (.const (.string { data := #[122] }))), (1, 1, (.const (.int .i64 1))), (2, 1, (.const (.int .i64 2)))])), .o 3 (.bsv (some 12) 3 3 [.a (.string ⟨#[]⟩), .a (.int .i64 0), .a (.int .i64 0)] [(0, (.tmp 9)), (1, (.tmp 10)), (2, (.tmp 11))]), .o 4 (.lt (some 13) (.build [.a (.slice none 0 0), .a (.slice none 0 0), .a (.bool false), .a (.slice none 0 0)] [(0, 1, (.tmp 12))])), .o 5 (.callo (some 14) (.func dom_New.id) [(.tmp 13)]), zm 6 1 14, .g (.keep [1])]) (.seq (.reg 1 [.o 0 (.bsv (some 15) 1 2 [.a (.int .i64 0)] [(0, (.const (.int .i64 4))), (1, (.const (.int .i64 5)))]), .o 1 (.callm (some 16) (.func branch_New.id) [(.tmp 15)]), zm 2 2 16, .g (.keep [1, 2])]) (.seq (.seq (.reg 0 [zm 0 17 1, zz 1 18 0 false 17, zm 2 19 18, ym 3 19 false 20 2, yz 4 19 false 21 0 false 20, zp 5 22 19 true 21, zm 6 23 22, ym 7 23 false 24 2, yc 8 23 false 25 24, yf 9 23 false 26 25 0, .gd 10 23 false (some 27) (.callm (some 27) (.func branch_list_Next.id) [(.tmp 26)]), yd 11 23 false 28 .neq 27 4, zp 12 29 23 true 28, zm 13 30 29, ym 14 30 false 31 2, yc 15 30 false 32 31, yf 16 30 false 33 32 0, .gd 17 30 false (some 34) (.callm (some 34) (.func branch_list_Next.id) [(.tmp 33)]), yd 18 30 false 35 .neq 34 5, zp 19 36 30 true 35, zm 20 37 36, ym 21 37 false 38 2, yc 22 37 false 39 38, yf 23 37 false 40 39 0, .gd 24 37 false (some 41) (.callm (some 41) (.func branch_list_Next.id) [(.tmp 40)]), yd 25 37 false 42 .neq 41 0, zp 26 43 37 true 42, .g (.keep [1, 43])]) (.cond (.tmp 43) (.seq (.reg 0 [zb 0 0 false, .g (.keep [0])]) (.ret)) (.skip))) (.seq (.reg 0 [zm 0 45 1, .o 1 (.callm (some 46) (.func branch_Pick.id) [(.tmp 45), (.const (.int .i64 (-2)))]), zm 2 44 46, ze 3 47 44 0, ze 4 48 44 1, ze 5 49 44 2, zm 6 3 47, zm 7 4 48, zm 8 5 49, .g (.keep [1, 3, 4, 5])]) (.seq (.reg 0 [zm 0 51 1, .o 1 (.callm (some 52) (.func branch_Pick.id) [(.tmp 51), (.const (.int .i64 5))]), zm 2 50 52, ze 3 53 50 0, ze 4 54 50 1, ze 5 55 50 2, zm 6 6 53, zm 7 7 54, zm 8 8 55, .g (.keep [3, 4, 5, 6, 7, 8])]) (.seq (.reg 0 [zm 0 56 5, zm 1 57 56, ym 2 57 true 58 8, zr 3 59 57 58 false, zm 4 60 59, ym 5 60 true 61 3, yd 6 60 true 62 .eql 61 0, zr 7 63 60 62 false, zm 8 64 63, ym 9 64 true 65 4, yd 10 64 true 66 .eql 65 3, zr 11 67 64 66 false, zm 12 68 67, ym 13 68 true 69 6, yd 14 68 true 70 .eql 69 2, zr 15 71 68 70 false, zm 16 72 71, ym 17 72 true 73 7, yd 18 72 true 74 .eql 73 2, zr 19 75 72 74 false, zm 20 0 75, .g (.keep [0])]) (.ret)))))))
def hallmarklaw17_known.rs : List Rs := [.sl 0]
theorem hallmarklaw17_known.ok : isFn Tryz.prog hallmarklaw17_known.id 76 hallmarklaw17_known.ann hallmarklaw17_known.ir hallmarklaw17_known.rs := ⟨Tryz.f5, _, Tryz.func5, rfl, rfl, by kernel_rfl, by kernel_rfl⟩
-- hallmark/hallmarklaw17.small
def hallmarklaw17_small.ann : List (Nat × RA) := [(0, rk [1]), (1, rk [1, 3]), (2, rk [1, 3, 4]), (3, rk [1, 3, 4, 24]), (4, rk [1, 3, 4]), (5, ro [1, 3, 4] [0, 1, 2, 3, 4, 5, 6, 7, 8, 9, 10, 11, 12, 13, 14, 15, 16, 17, 18, 19, 20, 21, 22, 23, 24, 25]), (6, rk [2])]
def hallmarklaw17_small.b0 : C := .seq (.seq (.reg 0 [zm 0 16 4, zf 1 17 1 1, zl 2 18 1 17, zn 3 19 18, za 4 20 .lss 16 19, zm 5 21 20, ym 6 21 true 22 3, yd 7 21 true 23 .leq 22 65536, zr 8 24 21 23 false, .g (.keep [1, 3, 4, 24])]) (.cond (.tmp 24) (.skip) (.exit 0))) (.seq (.block 1 (.reg 0 [zm 0 27 3, zf 1 28 1 1, zl 2 29 1 28, zm 3 30 4, zx 4 31 10 29 30, zf 5 32 31 2, zl 6 33 1 32, zn 7 34 33, za 8 35 .add 27 34, zf 9 36 1 1, zl 10 37 1 36, zm 11 38 4, zx 12 39 10 37 38, zf 13 40 39 7, zl 14 41 1 40, zn 15 42 41, za 16 43 .add 35 42, zf 17 44 1 1, zl 18 45 1 44, zm 19 46 4, zx 20 47 10 45 46, zf 21 48 47 8, zl 22 49 1 48, zn 23 50 49, za 24 51 .add 43 50, zm 25 3 51, .g (.keep [1, 3, 4])])) (.reg 0 [zm 0 25 4, zd 1 26 .add 25 1, zm 2 4 26, .g (.keep [1, 3, 4])]))
def hallmarklaw17_small.ir : C := .seq (.reg 1 [.o 0 (.box (some 1) 0 4 (.tmp 0)), zb 1 2 false, .g (.keep [1])]) (.seq (.reg 0 [zf 0 5 1 0, zl 1 6 1 5, zn 2 7 6, zf 3 8 1 1, zl 4 9 1 8, zn 5 10 9, za 6 11 .add 7 10, zf 7 12 1 3, zl 8 13 1 12, zn 9 14 13, za 10 15 .add 11 14, zm 11 3 15, .g (.keep [1, 3])]) (.seq (.seq (.reg 0 [zk 0 4 0, .g (.keep [1, 3, 4])]) (.block 0 (.loop hallmarklaw17_small.b0))) (.seq (.reg 0 [zm 0 52 3, zd 1 53 .leq 52 65536, zm 2 2 53, .g (.keep [2])]) (.ret))))
def hallmarklaw17_small.rs : List Rs := [.sl 2]
theorem hallmarklaw17_small.ok : isFn Tryz.prog hallmarklaw17_small.id 54 hallmarklaw17_small.ann hallmarklaw17_small.ir hallmarklaw17_small.rs := ⟨Tryz.f6, _, Tryz.func6, rfl, rfl, by kernel_rfl, by kernel_rfl⟩
-- hallmark/hallmarklaw17.stores
def hallmarklaw17_stores.ann : List (Nat × RA) := [(0, rk [1, 2]), (1, rq [1, 6, 7] [0, 2, 1, 3, 4, 5] [(1, [1000002]), (3, [1000002])]), (2, rk [1, 6, 7, 8]), (3, rk [1, 6, 7, 8, 20]), (4, rk [1, 6, 7, 8]), (5, rp [1, 6, 7, 8] [(5, [1000000])]), (6, rp [1, 6, 7, 8] [(5, [1000000])]), (7, rk [4, 5])]
def hallmarklaw17_stores.b0 : C := .seq (.seq (.reg 0 [zm 0 13 6, zz 1 14 0 true 13, zm 2 15 14, ym 3 15 true 16 8, ym 4 15 true 17 1, yn 5 15 true 18 17, ya 6 15 true 19 .lss 16 18, zr 7 20 15 19 false, .g (.keep [1, 6, 7, 8, 20])]) (.cond (.tmp 20) (.skip) (.exit 0))) (.seq (.block 1 (.seq (.reg 0 [zm 0 23 6, zm 1 24 1, zm 2 25 8, zx 3 26 3 24 25, zL 4 27 3 26, .o 5 (.callm (some 28) (.func dom_Store_Cut.id) [(.tmp 23), (.tmp 27)]), .g (.keep [1, 6, 7, 8])]) (.reg 0 [zm 0 29 7, zm 1 30 1, zm 2 31 8, zx 3 32 3 30 31, zL 4 33 3 32, .o 5 (.callm (some 34) (.func hallmarkref11_Store_Cut.id) [(.tmp 29), (.tmp 33)]), .g (.keep [1, 6, 7, 8])]))) (.reg 0 [zm 0 21 8, zd 1 22 .add 21 1, zm 2 8 22, .g (.keep [1, 6, 7, 8])]))
def hallmarklaw17_stores.ir : C := .seq (.reg 1 [.o 0 (.box (some 2) 0 4 (.tmp 0)), .o 1 (.lt (some 4) (.mov (.const (.pointer none)))), .o 2 (.lt (some 5) (.mov (.const (.pointer none)))), .g (.keep [1, 2])]) (.seq (.reg 0 [zL 0 9 4 2, zL 2 11 4 2, .o 1 (.callo (some 10) (.func dom_New.id) [(.tmp 9)]), .o 3 (.callo (some 12) (.func hallmarkref11_New.id) [(.tmp 11)]), zm 4 6 10, zm 5 7 12, .g (.keep [1, 6, 7])]) (.seq (.seq (.reg 0 [zk 0 8 0, .g (.keep [1, 6, 7, 8])]) (.block 0 (.loop hallmarklaw17_stores.b0))) (.seq (.reg 0 [zm 0 35 6, zm 1 36 7, zm 2 4 35, zm 3 5 36, .g (.keep [4, 5])]) (.ret))))
def hallmarklaw17_stores.rs : List Rs := [.sl 4, .sl 5]
theorem hallmarklaw17_stores.ok : isFn Tryz.prog hallmarklaw17_stores.id 37 hallmarklaw17_stores.ann hallmarklaw17_stores.ir hallmarklaw17_stores.rs := ⟨Tryz.f7, _, Tryz.func7, rfl, rfl, by kernel_rfl, by kernel_rfl⟩
-- hallmark/branch.Pick
def branch_Pick.ann : List (Nat × RA) := [(0, rk [0, 1]), (1, rp [0, 1, 7] [(1, [1000000])]), (2, rk [0, 1, 7, 17]), (3, rk [4, 5, 6]), (4, rk [0, 7, 8, 9]), (5, rk [0, 8, 10]), (6, rp [0, 10, 12] [(3, [1000000]), (6, [1000000])]), (7, rp [4, 5, 6] [(3, [1000000])])]
def branch_Pick.ir : C := .seq (.reg 0 [zk 0 4 0, zk 1 5 0, zb 2 6 false, .g (.keep [0, 1])]) (.seq (.reg 0 [zm 0 13 0, .o 1 (.callm (some 14) (.func dom_Store_Open.id) [(.tmp 13)]), zm 2 7 14, .g (.keep [0, 1, 7])]) (.seq (.seq (.reg 0 [zm 0 15 7, zn 1 16 15, zd 2 17 .eql 16 0, .g (.keep [0, 1, 7, 17])]) (.cond (.tmp 17) (.seq (.reg 0 [zk 0 4 0, zk 1 5 0, zb 2 6 false, .g (.keep [4, 5, 6])]) (.ret)) (.skip))) (.seq (.reg 0 [zm 0 19 1, zm 1 20 7, zn 2 21 20, .o 3 (.call (some 22) branch_divided.id [(.tmp 19), (.tmp 21)]), zm 4 18 22, ze 5 23 18 0, ze 6 24 18 1, zm 7 8 23, zm 8 9 24, .g (.keep [0, 7, 8, 9])]) (.seq (.reg 0 [zm 0 25 7, zm 1 26 9, zx 2 27 1 25 26, zl 3 28 1 27, zm 4 10 28, .g (.keep [0, 8, 10])]) (.seq (.reg 0 [zm 0 30 8, zm 1 31 0, zm 2 32 10, .o 3 (.callm (some 33) (.func dom_Store_Hi.id) [(.tmp 31), (.tmp 32)]), zm 4 34 0, zm 5 35 10, .o 6 (.callm (some 36) (.func dom_Store_Lo.id) [(.tmp 34), (.tmp 35)]), za 7 37 .sub 33 36, .o 8 (.call (some 38) branch_divided.id [(.tmp 30), (.tmp 37)]), zm 9 29 38, ze 10 39 29 0, ze 11 40 29 1, zm 12 11 39, zm 13 12 40, .g (.keep [0, 10, 12])]) (.seq (.reg 0 [zm 0 41 10, zm 1 42 0, zm 2 43 10, .o 3 (.callm (some 44) (.func dom_Store_Lo.id) [(.tmp 42), (.tmp 43)]), zd 4 45 .add 44 1, zm 5 46 12, za 6 47 .add 45 46, zm 7 4 41, zm 8 5 47, zb 9 6 true, .g (.keep [4, 5, 6])]) (.ret)))))))
def branch_Pick.rs : List Rs := [.sl 4, .sl 5, .sl 6]
theorem branch_Pick.ok : isFn Tryz.prog branch_Pick.id 48 branch_Pick.ann branch_Pick.ir branch_Pick.rs := ⟨Tryz.f8, _, Tryz.func8, rfl, rfl, by kernel_rfl, by kernel_rfl⟩
-- hallmark/hallmarkref17.Pick
-- (*hallmark/dom.Store).Open
def dom_Store_Open.ann : List (Nat × RA) := [(0, rk [0]), (1, rk [0, 3]), (2, rk [0, 3, 9, 10]), (3, rk [0, 3, 9, 10, 11]), (4, rk [0, 3, 4, 9, 10]), (5, rp [0, 3, 4, 9, 10, 16] [(2, [1000000])]), (6, rp [0, 3, 9, 10] [(2, [1000004])]), (7, rk [0, 3, 9, 10]), (8, { gs := [(0, [.frz 3, .nilv 3 1])], keep := some [2] })]
def dom_Store_Open.b0 : C := .seq (.reg 0 [za 0 11 .lss 10 9, .g (.keep [0, 3, 9, 10, 11])]) (.seq (.cond (.tmp 11) (.skip) (.exit 0)) (.seq (.block 1 (.seq (.reg 0 [zm 0 12 10, zm 1 4 12, .g (.keep [0, 3, 4, 9, 10])]) (.seq (.reg 0 [zm 0 13 0, zm 1 14 4, .o 2 (.callm (some 15) (.func dom_Store_Size.id) [(.tmp 13), (.tmp 14)]), zd 3 16 .gtr 15 1, .g (.keep [0, 3, 4, 9, 10, 16])]) (.cond (.tmp 16) (.reg 2 [zm 0 17 3, zm 1 18 4, .o 2 (.bsv (some 19) 1 1 [.a (.int .i64 0)] [(0, (.tmp 18))]), .o 3 (.app [] (some 20) 1 1 8 (.tmp 17) (.tmp 19)), zm 4 3 20, .g (.keep [0, 3, 9, 10])]) (.skip))))) (.reg 0 [zd 0 21 .add 10 1, zm 1 10 21, .g (.keep [0, 3, 9, 10])])))
def dom_Store_Open.ir : C := .seq (.reg 0 [.o 0 (.lt (some 2) (.mov (.const (.slice none 0 0)))), .g (.keep [0])]) (.seq (.reg 0 [.o 0 (.lt (some 3) (.mov (.const (.slice none 0 0)))), .g (.keep [0, 3])]) (.seq (.seq (.reg 0 [zm 0 5 0, zc 1 6 5, zf 2 7 6 0, zl 3 8 1 7, zn 4 9 8, zk 5 10 0, .g (.keep [0, 3, 9, 10])]) (.block 0 (.loop dom_Store_Open.b0))) (.seq (.reg 0 [.g (.frz 3), .g (.nilv 3 1), zm 0 22 3, zm 1 2 22, .g (.keep [2])]) (.ret))))
def dom_Store_Open.rs : List Rs := [.sl 2]
theorem dom_Store_Open.ok : isFn Tryz.prog dom_Store_Open.id 23 dom_Store_Open.ann dom_Store_Open.ir dom_Store_Open.rs := ⟨Tryz.f10, _, Tryz.func10, rfl, rfl, by kernel_rfl, by kernel_rfl⟩
-- (*hallmark/dom.Store).Copy
def dom_Store_Copy.ann : List (Nat × RA) := [(0, rk [0]), (1, rp [0, 3] [(4, [1000000])]), (2, rk [3, 16, 17, 18]), (3, rk [3, 16, 17, 18, 19]), (4, rk [3, 5, 16, 17, 18]), (5, rq [3, 16, 17, 18] [0, 1, 2, 3, 4, 5, 6, 7, 8, 9, 10, 11] [(6, [1000003, 23, 24, 25])]), (6, rk [3, 16, 17, 18]), (7, rk [2])]
def dom_Store_Copy.b0 : C := .seq (.reg 0 [za 0 19 .lss 18 17, .g (.keep [3, 16, 17, 18, 19])]) (.seq (.cond (.tmp 19) (.skip) (.exit 0)) (.seq (.block 1 (.seq (.reg 0 [zx 0 20 1 16 18, zl 1 21 1 20, zm 2 5 21, .g (.keep [3, 5, 16, 17, 18])]) (.reg 2 [zm 0 22 3, zm 1 23 3, zc 2 24 23, zf 3 25 24 1, zl 4 26 1 25, zm 5 27 5, .o 6 (.calla [23, 24, 25] (some 28) (.func slices_Clone_Ldom_domain_dom_domain.id) [(.tmp 27)]), .o 7 (.bsl (some 29) 0 1 1 [.a (.slice none 0 0)] [(0, (.tmp 28))]), .o 8 (.app [] (some 30) 1 1 24 (.tmp 26) (.tmp 29)), zc 9 31 22, zf 10 32 31 1, .o 11 (.store [] 1 (.tmp 32) (.tmp 30)), .g (.keep [3, 16, 17, 18])]))) (.reg 0 [zd 0 33 .add 18 1, zm 1 18 33, .g (.keep [3, 16, 17, 18])])))
def dom_Store_Copy.ir : C := .seq (.reg 0 [.o 0 (.lt (some 2) (.mov (.const (.pointer none)))), .g (.keep [0])]) (.seq (.reg 1 [zm 0 6 0, zc 1 7 6, zf 2 8 7 0, zl 3 9 1 8, .o 4 (.callm (some 10) (.func slices_Clone_Ldom_domain_dom_domain.id) [(.tmp 9)]), .o 5 (.lt (some 11) (.build [.a (.slice none 0 0), .a (.slice none 0 0)] [(0, 1, (.tmp 10))])), .o 6 (.box (some 12) 0 2 (.tmp 11)), zm 7 3 12, .g (.keep [0, 3])]) (.seq (.seq (.reg 0 [zm 0 13 0, zc 1 14 13, zf 2 15 14 1, zl 3 16 1 15, zn 4 17 16, zk 5 18 0, .g (.keep [3, 16, 17, 18])]) (.block 0 (.loop dom_Store_Copy.b0))) (.seq (.reg 0 [zm 0 34 3, zm 1 2 34, .g (.keep [2])]) (.ret))))
def dom_Store_Copy.rs : List Rs := [.sl 2]
theorem dom_Store_Copy.ok : isFn Tryz.prog dom_Store_Copy.id 35 dom_Store_Copy.ann dom_Store_Copy.ir dom_Store_Copy.rs := ⟨Tryz.f11, _, Tryz.func11, rfl, rfl, by kernel_rfl, by kernel_rfl⟩
-- (*hallmark/dom.Store).Cut
def dom_Store_Cut.ann : List (Nat × RA) := [(0, rk [0, 3]), (1, rp [0, 3, 13] [(3, [1000000])]), (2, rk [4, 5]), (3, ro [0, 3, 6] [0, 1, 2, 3, 4, 5, 6, 7, 8, 9]), (4, rk [0, 3, 6, 23, 24]), (5, rk [0, 3, 6, 23, 24, 25]), (6, rk [0, 3, 6, 7, 23, 24]), (7, rk [0, 3, 6, 7, 23, 24, 32]), (8, rp [0, 3, 6, 23, 24] [(2, [1000000])]), (9, rk [0, 3, 6, 23, 24]), (10, rk [0, 3, 6, 40]), (11, rk [4, 5]), (12, ro [0, 3, 6, 8] [0, 1, 2, 3, 4, 5, 6, 7, 8, 9, 10, 11, 12]), (13, ro [8] [0, 1, 2, 3, 4, 5, 6, 7, 8]), (14, rk [4, 5])]
def dom_Store_Cut.b0 : C := .seq (.reg 0 [za 0 25 .lss 24 23, .g (.keep [0, 3, 6, 23, 24, 25])]) (.seq (.cond (.tmp 25) (.skip) (.exit 0)) (.seq (.block 1 (.seq (.reg 0 [zm 0 26 24, zm 1 7 26, .g (.keep [0, 3, 6, 7, 23, 24])]) (.seq (.reg 0 [zL 0 27 3 3, zf 1 28 6 0, zl 2 29 1 28, zm 3 30 7, za 4 31 .add 29 30, .o 5 (.call (some 32) dom_goes.id [(.tmp 27), (.tmp 31)]), .g (.keep [0, 3, 6, 7, 23, 24, 32])]) (.cond (.tmp 32) (.reg 0 [zf 0 33 6 2, zm 1 34 7, .o 2 (.callm (some 35) (.func dom_set_drop.id) [(.tmp 33), (.tmp 34)]), .g (.keep [0, 3, 6, 23, 24])]) (.skip))))) (.reg 0 [zd 0 36 .add 24 1, zm 1 24 36, .g (.keep [0, 3, 6, 23, 24])])))
def dom_Store_Cut.ir : C := .seq (.reg 1 [.o 0 (.box (some 3) 0 3 (.tmp 1)), zb 1 4 false, zb 2 5 false, .g (.keep [0, 3])]) (.seq (.seq (.reg 0 [zm 0 9 0, zf 1 10 3 1, zl 2 11 1 10, .o 3 (.callm (some 12) (.func dom_Store_is.id) [(.tmp 9), (.tmp 11)]), zq 4 13 12, .g (.keep [0, 3, 13])]) (.cond (.tmp 13) (.seq (.reg 0 [zb 0 4 false, zb 1 5 true, .g (.keep [4, 5])]) (.ret)) (.skip))) (.seq (.reg 1 [zm 0 14 0, zc 1 15 14, zf 2 16 15 0, zl 3 17 1 16, zf 4 18 3 1, zl 5 19 1 18, zx 6 20 4 17 19, zL 7 21 4 20, .o 8 (.alloc (some 6) 0 4 [.a (.int .i64 0), .a (.int .i64 0), .a (.int .u32 0), .a (.int .u32 0)]), .o 9 (.store [] 4 (.tmp 6) (.tmp 21)), .g (.keep [0, 3, 6])]) (.seq (.seq (.reg 0 [zf 0 22 6 1, zl 1 23 1 22, zk 2 24 0, .g (.keep [0, 3, 6, 23, 24])]) (.block 0 (.loop dom_Store_Cut.b0))) (.seq (.seq (.reg 0 [zf 0 37 6 2, zL 1 38 2 37, .o 2 (.lt (some 39) (.build [.a (.int .u32 0), .a (.int .u32 0)] [])), .o 3 (.lt (some 40) (.eqD false [(0, 0), (1, 0)] (.tmp 38) (.tmp 39))), .g (.keep [0, 3, 6, 40])]) (.cond (.tmp 40) (.seq (.reg 0 [zb 0 4 false, zb 1 5 false, .g (.keep [4, 5])]) (.ret)) (.skip))) (.seq (.reg 0 [zf 0 41 6 2, zL 1 42 2 41, zm 2 43 0, zc 3 44 43, zf 4 45 44 0, zl 5 46 1 45, zf 6 47 3 1, zl 7 48 1 47, zx 8 49 4 46 48, zf 9 50 49 2, zL 10 51 2 50, .o 11 (.lt (some 52) (.eqD true [(0, 0), (1, 0)] (.tmp 42) (.tmp 51))), zm 12 8 52, .g (.keep [0, 3, 6, 8])]) (.seq (.reg 0 [zm 0 53 0, zc 1 54 53, zf 2 55 54 0, zl 3 56 1 55, zf 4 57 3 1, zl 5 58 1 57, zL 6 59 4 6, zx 7 60 4 56 58, .o 8 (.store [] 4 (.tmp 60) (.tmp 59)), .g (.keep [8])]) (.seq (.reg 0 [zm 0 61 8, zm 1 4 61, zb 2 5 true, .g (.keep [4, 5])]) (.ret))))))))
def dom_Store_Cut.rs : List Rs := [.sl 4, .sl 5]
theorem dom_Store_Cut.ok : isFn Tryz.prog dom_Store_Cut.id 62 dom_Store_Cut.ann dom_Store_Cut.ir dom_Store_Cut.rs := ⟨Tryz.f12, _, Tryz.func12, rfl, rfl, by kernel_rfl, by kernel_rfl⟩
-- (*hallmark/dom.Store).Size
def dom_Store_Size.ann : List (Nat × RA) := [(0, rk [0, 1]), (1, rp [0, 1, 8] [(2, [1000000])]), (2, rk [4]), (3, rp [4] [(7, [1000000])])]
def dom_Store_Size.ir : C := .seq (.reg 0 [zk 0 4 0, .g (.keep [0, 1])]) (.seq (.seq (.reg 0 [zm 0 5 0, zm 1 6 1, .o 2 (.callm (some 7) (.func dom_Store_is.id) [(.tmp 5), (.tmp 6)]), zq 3 8 7, .g (.keep [0, 1, 8])]) (.cond (.tmp 8) (.seq (.reg 0 [zk 0 4 0, .g (.keep [4])]) (.ret)) (.skip))) (.seq (.reg 0 [zm 0 9 0, zc 1 10 9, zf 2 11 10 0, zl 3 12 1 11, zm 4 13 1, zx 5 14 4 12 13, zf 6 15 14 2, .o 7 (.callm (some 16) (.func dom_set_size.id) [(.tmp 15)]), zm 8 4 16, .g (.keep [4])]) (.ret)))
def dom_Store_Size.rs : List Rs := [.sl 4]
theorem dom_Store_Size.ok : isFn Tryz.prog dom_Store_Size.id 17 dom_Store_Size.ann dom_Store_Size.ir dom_Store_Size.rs := ⟨Tryz.f13, _, Tryz.func13, rfl, rfl, by kernel_rfl, by kernel_rfl⟩
-- (*hallmark/dom.Store).Values
def dom_Store_Values.ann : List (Nat × RA) := [(0, rk [0, 1]), (1, rp [0, 1, 11] [(2, [1000000])]), (2, rk [4]), (3, rk [0, 1, 5]), (4, rk [5, 6]), (5, rk [5, 6, 20, 21]), (6, rk [5, 6, 20, 21, 22]), (7, rk [5, 6, 7, 20, 21]), (8, rp [5, 6, 7, 20, 21, 26] [(2, [1000000])]), (9, rp [5, 6, 20, 21] [(5, [1000004])]), (10, rk [5, 6, 20, 21]), (11, { gs := [(0, [.frz 5, .nilv 5 1])], keep := some [4] })]
def dom_Store_Values.b0 : C := .seq (.reg 0 [za 0 22 .lss 21 20, .g (.keep [5, 6, 20, 21, 22])]) (.seq (.cond (.tmp 22) (.skip) (.exit 0)) (.seq (.block 1 (.seq (.reg 0 [zm 0 23 21, zm 1 7 23, .g (.keep [5, 6, 7, 20, 21])]) (.seq (.reg 0 [zf 0 24 6 2, zm 1 25 7, .o 2 (.callm (some 26) (.func dom_set_has.id) [(.tmp 24), (.tmp 25)]), .g (.keep [5, 6, 7, 20, 21, 26])]) (.cond (.tmp 26) (.reg 2 [zm 0 27 5, zf 1 28 6 0, zl 2 29 1 28, zm 3 30 7, za 4 31 .add 29 30, .o 5 (.bsv (some 32) 1 1 [.a (.int .i64 0)] [(0, (.tmp 31))]), .o 6 (.app [] (some 33) 1 1 8 (.tmp 27) (.tmp 32)), zm 7 5 33, .g (.keep [5, 6, 20, 21])]) (.skip))))) (.reg 0 [zd 0 34 .add 21 1, zm 1 21 34, .g (.keep [5, 6, 20, 21])])))
def dom_Store_Values.ir : C := .seq (.reg 0 [.o 0 (.lt (some 4) (.mov (.const (.slice none 0 0)))), .g (.keep [0, 1])]) (.seq (.seq (.reg 0 [zm 0 8 0, zm 1 9 1, .o 2 (.callm (some 10) (.func dom_Store_is.id) [(.tmp 8), (.tmp 9)]), zq 3 11 10, .g (.keep [0, 1, 11])]) (.cond (.tmp 11) (.seq (.reg 0 [.o 0 (.lt (some 4) (.mov (.const (.slice none 0 0)))), .g (.keep [4])]) (.ret)) (.skip))) (.seq (.reg 0 [.o 0 (.lt (some 5) (.mov (.const (.slice none 0 0)))), .g (.keep [0, 1, 5])]) (.seq (.reg 1 [zm 0 12 0, zc 1 13 12, zf 2 14 13 0, zl 3 15 1 14, zm 4 16 1, zx 5 17 4 15 16, zL 6 18 4 17, .o 7 (.alloc (some 6) 0 4 [.a (.int .i64 0), .a (.int .i64 0), .a (.int .u32 0), .a (.int .u32 0)]), .o 8 (.store [] 4 (.tmp 6) (.tmp 18)), .g (.keep [5, 6])]) (.seq (.seq (.reg 0 [zf 0 19 6 1, zl 1 20 1 19, zk 2 21 0, .g (.keep [5, 6, 20, 21])]) (.block 0 (.loop dom_Store_Values.b0))) (.seq (.reg 0 [.g (.frz 5), .g (.nilv 5 1), zm 0 35 5, zm 1 4 35, .g (.keep [4])]) (.ret))))))
def dom_Store_Values.rs : List Rs := [.sl 4]
theorem dom_Store_Values.ok : isFn Tryz.prog dom_Store_Values.id 36 dom_Store_Values.ann dom_Store_Values.ir dom_Store_Values.rs := ⟨Tryz.f14, _, Tryz.func14, rfl, rfl, by kernel_rfl, by kernel_rfl⟩
-- (*hallmark/dom.Store).Has
def dom_Store_Has.ann : List (Nat × RA) := [(0, rk [0, 1, 2]), (1, rp [0, 1, 2, 11] [(2, [1000000])]), (2, rk [6]), (3, rk [2, 7]), (4, rp [6] [(19, [1000000])])]
def dom_Store_Has.ir : C := .seq (.reg 0 [zb 0 6 false, .g (.keep [0, 1, 2])]) (.seq (.seq (.reg 0 [zm 0 8 0, zm 1 9 1, .o 2 (.callm (some 10) (.func dom_Store_is.id) [(.tmp 8), (.tmp 9)]), zq 3 11 10, .g (.keep [0, 1, 2, 11])]) (.cond (.tmp 11) (.seq (.reg 0 [zb 0 6 false, .g (.keep [6])]) (.ret)) (.skip))) (.seq (.reg 1 [zm 0 12 0, zc 1 13 12, zf 2 14 13 0, zl 3 15 1 14, zm 4 16 1, zx 5 17 4 15 16, zL 6 18 4 17, .o 7 (.alloc (some 7) 0 4 [.a (.int .i64 0), .a (.int .i64 0), .a (.int .u32 0), .a (.int .u32 0)]), .o 8 (.store [] 4 (.tmp 7) (.tmp 18)), .g (.keep [2, 7])]) (.seq (.reg 0 [zm 0 19 2, zf 1 20 7 0, zl 2 21 1 20, za 3 22 .geq 19 21, zm 4 23 22, ym 5 23 true 24 2, yf 6 23 true 25 7 0, yl 7 23 true 26 1 25, yf 8 23 true 27 7 1, yl 9 23 true 28 1 27, ya 10 23 true 29 .add 26 28, ya 11 23 true 30 .lss 24 29, zr 12 31 23 30 false, zm 13 32 31, yf 14 32 true 33 7 2, ym 15 32 true 34 2, yf 16 32 true 35 7 0, yl 17 32 true 36 1 35, ya 18 32 true 37 .sub 34 36, .gd 19 32 true (some 38) (.callm (some 38) (.func dom_set_has.id) [(.tmp 33), (.tmp 37)]), zr 20 39 32 38 false, zm 21 6 39, .g (.keep [6])]) (.ret))))
def dom_Store_Has.rs : List Rs := [.sl 6]
theorem dom_Store_Has.ok : isFn Tryz.prog dom_Store_Has.id 40 dom_Store_Has.ann dom_Store_Has.ir dom_Store_Has.rs := ⟨Tryz.f15, _, Tryz.func15, rfl, rfl, by kernel_rfl, by kernel_rfl⟩
-- (*hallmark/dom.Store).Hi
def dom_Store_Hi.ann : List (Nat × RA) := [(0, rk [0, 1]), (1, rp [0, 1, 9] [(2, [1000000])]), (2, rk [4]), (3, rp [5] [(2, [1000000])]), (4, rk [4])]
def dom_Store_Hi.ir : C := .seq (.reg 0 [zk 0 4 0, .g (.keep [0, 1])]) (.seq (.seq (.reg 0 [zm 0 6 0, zm 1 7 1, .o 2 (.callm (some 8) (.func dom_Store_is.id) [(.tmp 6), (.tmp 7)]), zq 3 9 8, .g (.keep [0, 1, 9])]) (.cond (.tmp 9) (.seq (.reg 0 [zk 0 4 0, .g (.keep [4])]) (.ret)) (.skip))) (.seq (.reg 0 [zm 0 10 0, zm 1 11 1, .o 2 (.callm (some 12) (.func dom_Store_Values.id) [(.tmp 10), (.tmp 11)]), zm 3 5 12, .g (.keep [5])]) (.seq (.reg 0 [zm 0 13 5, zm 1 14 5, zn 2 15 14, zd 3 16 .sub 15 1, zx 4 17 1 13 16, zl 5 18 1 17, zm 6 4 18, .g (.keep [4])]) (.ret))))
def dom_Store_Hi.rs : List Rs := [.sl 4]
theorem dom_Store_Hi.ok : isFn Tryz.prog dom_Store_Hi.id 19 dom_Store_Hi.ann dom_Store_Hi.ir dom_Store_Hi.rs := ⟨Tryz.f16, _, Tryz.func16, rfl, rfl, by kernel_rfl, by kernel_rfl⟩
-- (*hallmark/dom.Store).Lo
def dom_Store_Lo.ann : List (Nat × RA) := [(0, rk [0, 1]), (1, rp [0, 1, 8] [(2, [1000000])]), (2, rk [4]), (3, rp [4] [(2, [1000000])])]
def dom_Store_Lo.ir : C := .seq (.reg 0 [zk 0 4 0, .g (.keep [0, 1])]) (.seq (.seq (.reg 0 [zm 0 5 0, zm 1 6 1, .o 2 (.callm (some 7) (.func dom_Store_is.id) [(.tmp 5), (.tmp 6)]), zq 3 8 7, .g (.keep [0, 1, 8])]) (.cond (.tmp 8) (.seq (.reg 0 [zk 0 4 0, .g (.keep [4])]) (.ret)) (.skip))) (.seq (.reg 0 [zm 0 9 0, zm 1 10 1, .o 2 (.callm (some 11) (.func dom_Store_Values.id) [(.tmp 9), (.tmp 10)]), .o 3 (.lt (some 12) (.ixS 1 (.tmp 11) (.const (.int .i64 0)))), zl 4 13 1 12, zm 5 4 13, .g (.keep [4])]) (.ret)))
def dom_Store_Lo.rs : List Rs := [.sl 4]
theorem dom_Store_Lo.ok : isFn Tryz.prog dom_Store_Lo.id 14 dom_Store_Lo.ann dom_Store_Lo.ir dom_Store_Lo.rs := ⟨Tryz.f17, _, Tryz.func17, rfl, rfl, by kernel_rfl, by kernel_rfl⟩
-- hallmark/dom.New
def dom_New.ann : List (Nat × RA) := [(0, rk [1]), (1, rk [1, 3]), (2, rk [1, 3, 5]), (3, rk [1, 3, 18]), (4, { gs := [(0, [.wk])], keep := some [2] }), (5, { gs := [(0, [.wk])], keep := some [3, 21, 22, 23] }), (6, rk [3, 21, 22, 23, 24]), (7, rk [3, 7, 21, 22, 23]), (8, rk [3, 8, 21, 22, 23]), (9, rk [3, 8, 21, 22, 23, 37, 38]), (10, rk [3, 8, 21, 22, 23, 37, 38, 39]), (11, rk [3, 8, 9, 21, 22, 23, 37, 38]), (12, ro [3, 8, 21, 22, 23, 37, 38] [0, 1, 2, 3, 4, 5, 6, 7, 8, 9, 10, 11]), (13, rk [3, 8, 21, 22, 23, 37, 38]), (14, rq [3, 21, 22, 23] [0, 1, 2, 3, 4, 5, 6, 7, 8, 9, 10] [(6, [1000004])]), (15, rk [3, 21, 22, 23]), (16, rk [2])]
def dom_New.b1 : C := .seq (.reg 0 [za 0 39 .lss 38 37, .g (.keep [3, 8, 21, 22, 23, 37, 38, 39])]) (.seq (.cond (.tmp 39) (.skip) (.exit 2)) (.seq (.block 3 (.seq (.reg 0 [zm 0 40 38, zm 1 9 40, .g (.keep [3, 8, 9, 21, 22, 23, 37, 38])]) (.reg 0 [zm 0 41 9, zd 1 42 .quo 41 32, zf 2 43 8 2, .o 3 (.lt (some 44) (.ixA 2 1 (.tmp 43) (.tmp 42))), zl 4 45 1 44, zm 5 46 9, zd 6 47 .rem 46 32, .o 7 (.lt (some 48) (.bin .shl (.const (.int .u32 1)) (.tmp 47))), za 8 49 .or 45 48, zf 9 50 8 2, .o 10 (.lt (some 51) (.ixA 2 1 (.tmp 50) (.tmp 42))), .o 11 (.store [] 1 (.tmp 51) (.tmp 49)), .g (.keep [3, 8, 21, 22, 23, 37, 38])]))) (.reg 0 [zd 0 52 .add 38 1, zm 1 38 52, .g (.keep [3, 8, 21, 22, 23, 37, 38])])))
def dom_New.b0 : C := .seq (.reg 0 [za 0 24 .lss 23 22, .g (.keep [3, 21, 22, 23, 24])]) (.seq (.cond (.tmp 24) (.skip) (.exit 0)) (.seq (.block 1 (.seq (.reg 1 [zx 0 25 3 21 23, zL 1 26 3 25, .o 2 (.alloc (some 7) 0 3 [.a (.string ⟨#[]⟩), .a (.int .i64 0), .a (.int .i64 0)]), .o 3 (.store [] 3 (.tmp 7) (.tmp 26)), .g (.keep [3, 7, 21, 22, 23])]) (.seq (.reg 1 [zf 0 27 7 1, zl 1 28 1 27, zf 2 29 7 2, zl 3 30 1 29, zf 4 31 7 1, zl 5 32 1 31, za 6 33 .sub 30 32, zd 7 34 .add 33 1, .o 8 (.lt (some 35) (.build [.a (.int .i64 0), .a (.int .i64 0), .a (.int .u32 0), .a (.int .u32 0)] [(0, 1, (.tmp 28)), (1, 1, (.tmp 34))])), .o 9 (.alloc (some 8) 0 4 [.a (.int .i64 0), .a (.int .i64 0), .a (.int .u32 0), .a (.int .u32 0)]), .o 10 (.store [] 4 (.tmp 8) (.tmp 35)), .g (.keep [3, 8, 21, 22, 23])]) (.seq (.seq (.reg 0 [zf 0 36 8 1, zl 1 37 1 36, zk 2 38 0, .g (.keep [3, 8, 21, 22, 23, 37, 38])]) (.block 2 (.loop dom_New.b1))) (.reg 2 [zm 0 53 3, zm 1 54 3, zc 2 55 54, zf 3 56 55 0, zl 4 57 1 56, zL 5 58 4 8, .o 6 (.bsv (some 59) 4 1 [.a (.int .i64 0), .a (.int .i64 0), .a (.int .u32 0), .a (.int .u32 0)] [(0, (.tmp 58))]), .o 7 (.app [] (some 60) 1 4 24 (.tmp 57) (.tmp 59)), zc 8 61 53, zf 9 62 61 0, .o 10 (.store [] 1 (.tmp 62) (.tmp 60)), .g (.keep [3, 21, 22, 23])]))))) (.reg 0 [zd 0 63 .add 23 1, zm 1 23 63, .g (.keep [3, 21, 22, 23])])))
def dom_New.ir : C := .seq (.reg 1 [.o 0 (.box (some 1) 0 4 (.tmp 0)), .o 1 (.lt (some 2) (.mov (.const (.pointer none)))), .g (.keep [1])]) (.seq (.reg 1 [.o 0 (.lt (some 10) (.build [.a (.slice none 0 0), .a (.slice none 0 0)] [])), .o 1 (.box (some 11) 0 2 (.tmp 10)), zm 2 3 11, .g (.keep [1, 3])]) (.seq (.seq (.reg 0 [zL 0 13 4 1, .o 1 (.call (some 14) model_Check.id [(.tmp 13)]), zm 2 12 14, ze 3 15 12 0, ze 4 16 12 1, zm 5 4 15, zm 6 5 16, .g (.keep [1, 3, 5])]) (.seq (.reg 0 [zm 0 17 5, zd 1 18 .neq 17 0, .g (.keep [1, 3, 18])]) (.cond (.tmp 18) (.seq (.reg 0 [.g (.wk), zm 0 19 3, zm 1 2 19, .g (.keep [2])]) (.ret)) (.skip)))) (.seq (.seq (.reg 0 [.g (.wk), zf 0 20 1 0, zl 1 21 1 20, zn 2 22 21, zk 3 23 0, .g (.keep [3, 21, 22, 23])]) (.block 0 (.loop dom_New.b0))) (.seq (.reg 0 [zm 0 64 3, zm 1 2 64, .g (.keep [2])]) (.ret)))))
def dom_New.rs : List Rs := [.sl 2]
theorem dom_New.ok : isFn Tryz.prog dom_New.id 65 dom_New.ann dom_New.ir dom_New.rs := ⟨Tryz.f18, _, Tryz.func18, rfl, rfl, by kernel_rfl, by kernel_rfl⟩
-- hallmark/branch.New
def branch_New.ann : List (Nat × RA) := [(0, rk [0]), (1, rk [2])]
def branch_New.ir : C := .seq (.reg 0 [.o 0 (.lt (some 2) (.mov (.const (.pointer none)))), .g (.keep [0])]) (.seq (.reg 1 [zm 0 3 0, .o 1 (.call (some 4) slices_Clone_Lint_int.id [(.tmp 3)]), .o 2 (.lt (some 5) (.build [.a (.slice none 0 0)] [(0, 1, (.tmp 4))])), .o 3 (.lt (some 6) (.build [.a (.slice none 0 0)] [(0, 1, (.tmp 5))])), .o 4 (.box (some 7) 0 1 (.tmp 6)), zm 5 2 7, .g (.keep [2])]) (.ret))
def branch_New.rs : List Rs := [.sl 2]
theorem branch_New.ok : isFn Tryz.prog branch_New.id 8 branch_New.ann branch_New.ir branch_New.rs := ⟨Tryz.f19, _, Tryz.func19, rfl, rfl, by kernel_rfl, by kernel_rfl⟩
-- (*hallmark/branch.list).Next
def branch_list_Next.ann : List (Nat × RA) := [(0, rk [0]), (1, rk [0, 9]), (2, rk [2]), (3, rk [0, 3]), (4, rk [3]), (5, rk [2])]
def branch_list_Next.ir : C := .seq (.reg 0 [zk 0 2 0, .g (.keep [0])]) (.seq (.seq (.reg 0 [zm 0 4 0, zc 1 5 4, zf 2 6 5 0, zl 3 7 1 6, zn 4 8 7, zd 5 9 .eql 8 0, .g (.keep [0, 9])]) (.cond (.tmp 9) (.seq (.reg 0 [zk 0 2 0, .g (.keep [2])]) (.ret)) (.skip))) (.seq (.reg 0 [zm 0 10 0, zc 1 11 10, zf 2 12 11 0, zl 3 13 1 12, .o 4 (.lt (some 14) (.ixS 1 (.tmp 13) (.const (.int .i64 0)))), zl 5 15 1 14, zm 6 3 15, .g (.keep [0, 3])]) (.seq (.reg 0 [zm 0 16 0, zm 1 17 0, zc 2 18 17, zf 3 19 18 0, zl 4 20 1 19, .o 5 (.lt (some 21) (.slSl 1 (.tmp 20) (some (.const (.int .i64 1))) none)), zc 6 22 16, zf 7 23 22 0, .o 8 (.store [] 1 (.tmp 23) (.tmp 21)), .g (.keep [3])]) (.seq (.reg 0 [zm 0 24 3, zm 1 2 24, .g (.keep [2])]) (.ret)))))
def branch_list_Next.rs : List Rs := [.sl 2]
theorem branch_list_Next.ok : isFn Tryz.prog branch_list_Next.id 25 branch_list_Next.ann branch_list_Next.ir branch_list_Next.rs := ⟨Tryz.f20, _, Tryz.func20, rfl, rfl, by kernel_rfl, by kernel_rfl⟩
-- hallmark/hallmarkref11.New
def hallmarkref11_New.ann : List (Nat × RA) := [(0, rk [1]), (1, rk [1, 3]), (2, { gs := [(0, [.wk])], keep := some [1, 3, 5] }), (3, rk [1, 3, 5, 6]), (4, rk [1, 3, 5, 6, 24]), (5, rk [1, 3, 5, 6]), (6, rk [1, 3, 5, 6, 7]), (7, rk [1, 3, 5, 6, 7, 8]), (8, rk [1, 3, 5, 6, 7, 8, 40]), (9, rk [1, 3, 5, 6, 7, 8]), (10, rp [1, 3, 5, 6, 7, 8] [(2, [1000004])]), (11, { gs := [(0, [.frz 7, .nilv 7 1])], keep := some [1, 3, 5, 6], aps := [(6, [1000004])] }), (12, rk [2])]
def hallmarkref11_New.b1 : C := .seq (.seq (.reg 0 [zm 0 33 8, zf 1 34 1 0, zl 2 35 1 34, zm 3 36 6, zx 4 37 3 35 36, zf 5 38 37 2, zl 6 39 1 38, za 7 40 .leq 33 39, .g (.keep [1, 3, 5, 6, 7, 8, 40])]) (.cond (.tmp 40) (.skip) (.exit 2))) (.seq (.block 3 (.reg 2 [zm 0 43 7, zm 1 44 8, .o 2 (.bsv (some 45) 1 1 [.a (.int .i64 0)] [(0, (.tmp 44))]), .o 3 (.app [] (some 46) 1 1 8 (.tmp 43) (.tmp 45)), zm 4 7 46, .g (.keep [1, 3, 5, 6, 7, 8])])) (.reg 0 [zm 0 41 8, zd 1 42 .add 41 1, zm 2 8 42, .g (.keep [1, 3, 5, 6, 7, 8])]))
def hallmarkref11_New.b0 : C := .seq (.seq (.reg 0 [zm 0 16 6, zf 1 17 1 0, zl 2 18 1 17, zn 3 19 18, za 4 20 .lss 16 19, zm 5 21 20, ym 6 21 true 22 5, yd 7 21 true 23 .eql 22 0, zr 8 24 21 23 false, .g (.keep [1, 3, 5, 6, 24])]) (.cond (.tmp 24) (.skip) (.exit 0))) (.seq (.block 1 (.seq (.reg 0 [.o 0 (.lt (some 7) (.mov (.const (.slice none 0 0)))), .g (.keep [1, 3, 5, 6, 7])]) (.seq (.seq (.reg 0 [zf 0 27 1 0, zl 1 28 1 27, zm 2 29 6, zx 3 30 3 28 29, zf 4 31 30 1, zl 5 32 1 31, zm 6 8 32, .g (.keep [1, 3, 5, 6, 7, 8])]) (.block 2 (.loop hallmarkref11_New.b1))) (.reg 2 [.g (.frz 7), .g (.nilv 7 1), zm 0 47 3, zm 1 48 3, zc 2 49 48, zf 3 50 49 0, zl 4 51 1 50, zm 5 52 7, .o 6 (.bsv (some 53) 1 1 [.a (.slice none 0 0)] [(0, (.tmp 52))]), .o 7 (.app [] (some 54) 1 1 24 (.tmp 51) (.tmp 53)), zc 8 55 47, zf 9 56 55 0, .o 10 (.store [] 1 (.tmp 56) (.tmp 54)), .g (.keep [1, 3, 5, 6])])))) (.reg 0 [zm 0 25 6, zd 1 26 .add 25 1, zm 2 6 26, .g (.keep [1, 3, 5, 6])]))
def hallmarkref11_New.ir : C := .seq (.reg 1 [.o 0 (.box (some 1) 0 4 (.tmp 0)), .o 1 (.lt (some 2) (.mov (.const (.pointer none)))), .g (.keep [1])]) (.seq (.reg 1 [.o 0 (.lt (some 9) (.build [.a (.slice none 0 0), .a (.slice none 0 0)] [])), .o 1 (.box (some 10) 0 2 (.tmp 9)), zm 2 3 10, .g (.keep [1, 3])]) (.seq (.reg 0 [.g (.wk), zL 0 12 4 1, .o 1 (.call (some 13) hallmarkref4_Check.id [(.tmp 12)]), zm 2 11 13, ze 3 14 11 0, ze 4 15 11 1, zm 5 4 14, zm 6 5 15, .g (.keep [1, 3, 5])]) (.seq (.seq (.reg 0 [zk 0 6 0, .g (.keep [1, 3, 5, 6])]) (.block 0 (.loop hallmarkref11_New.b0))) (.seq (.reg 0 [zm 0 57 3, zm 1 2 57, .g (.keep [2])]) (.ret)))))
def hallmarkref11_New.rs : List Rs := [.sl 2]
theorem hallmarkref11_New.ok : isFn Tryz.prog hallmarkref11_New.id 58 hallmarkref11_New.ann hallmarkref11_New.ir hallmarkref11_New.rs := ⟨Tryz.f21, _, Tryz.func21, rfl, rfl, by kernel_rfl, by kernel_rfl⟩
-- (*hallmark/hallmarkref11.Store).Cut
def hallmarkref11_Store_Cut.ann : List (Nat × RA) := [(0, rk [0, 3]), (1, rp [0, 3, 13] [(3, [1000000])]), (2, rk [4, 5]), (3, rk [0, 3, 6]), (4, rk [0, 3, 6, 7]), (5, ro [0, 3, 6, 7, 24] [0, 1, 2, 3, 4, 5, 6, 7, 8, 9, 10]), (6, rk [0, 3, 6, 7]), (7, ro [0, 3, 6, 7, 40] [0, 1, 2, 3, 4, 5, 6, 7, 8, 9, 10, 11, 12, 13]), (8, rq [0, 3, 6, 7] [0, 1, 2, 3, 4, 5, 6, 7, 8, 9, 10, 11, 12, 13, 14] [(12, [1000004])]), (9, { gs := [(0, [.frz 6])], keep := some [0, 3, 6, 57] }), (10, rk [4, 5]), (11, ro [0, 3, 6, 8] [0, 1, 2, 3, 4, 5, 6, 7, 8, 9, 10, 11, 12]), (12, ro [8] [0, 1, 2, 3, 4, 5, 6, 7, 8]), (13, rk [4, 5])]
def hallmarkref11_Store_Cut.b0 : C := .seq (.seq (.reg 0 [zm 0 14 7, zm 1 15 0, zc 2 16 15, zf 3 17 16 0, zl 4 18 1 17, zf 5 19 3 1, zl 6 20 1 19, zx 7 21 1 18 20, zl 8 22 1 21, zn 9 23 22, za 10 24 .lss 14 23, .g (.keep [0, 3, 6, 7, 24])]) (.cond (.tmp 24) (.skip) (.exit 0))) (.seq (.block 1 (.seq (.reg 0 [zL 0 27 3 3, zm 1 28 0, zc 2 29 28, zf 3 30 29 0, zl 4 31 1 30, zf 5 32 3 1, zl 6 33 1 32, zx 7 34 1 31 33, zl 8 35 1 34, zm 9 36 7, zx 10 37 1 35 36, zl 11 38 1 37, .o 12 (.call (some 39) hallmarkref11_Goes.id [(.tmp 27), (.tmp 38)]), zq 13 40 39, .g (.keep [0, 3, 6, 7, 40])]) (.cond (.tmp 40) (.reg 2 [zm 0 41 6, zm 1 42 0, zc 2 43 42, zf 3 44 43 0, zl 4 45 1 44, zf 5 46 3 1, zl 6 47 1 46, zx 7 48 1 45 47, zl 8 49 1 48, zm 9 50 7, zx 10 51 1 49 50, zl 11 52 1 51, .o 12 (.bsv (some 53) 1 1 [.a (.int .i64 0)] [(0, (.tmp 52))]), .o 13 (.app [] (some 54) 1 1 8 (.tmp 41) (.tmp 53)), zm 14 6 54, .g (.keep [0, 3, 6, 7])]) (.skip)))) (.reg 0 [zm 0 25 7, zd 1 26 .add 25 1, zm 2 7 26, .g (.keep [0, 3, 6, 7])]))
def hallmarkref11_Store_Cut.ir : C := .seq (.reg 1 [.o 0 (.box (some 3) 0 3 (.tmp 1)), zb 1 4 false, zb 2 5 false, .g (.keep [0, 3])]) (.seq (.seq (.reg 0 [zm 0 9 0, zf 1 10 3 1, zl 2 11 1 10, .o 3 (.callm (some 12) (.func hallmarkref11_Store_is.id) [(.tmp 9), (.tmp 11)]), zq 4 13 12, .g (.keep [0, 3, 13])]) (.cond (.tmp 13) (.seq (.reg 0 [zb 0 4 false, zb 1 5 true, .g (.keep [4, 5])]) (.ret)) (.skip))) (.seq (.reg 0 [.o 0 (.lt (some 6) (.mov (.const (.slice none 0 0)))), .g (.keep [0, 3, 6])]) (.seq (.seq (.reg 0 [zk 0 7 0, .g (.keep [0, 3, 6, 7])]) (.block 0 (.loop hallmarkref11_Store_Cut.b0))) (.seq (.seq (.reg 0 [.g (.frz 6), zm 0 55 6, zn 1 56 55, zd 2 57 .eql 56 0, .g (.keep [0, 3, 6, 57])]) (.cond (.tmp 57) (.seq (.reg 0 [zb 0 4 false, zb 1 5 false, .g (.keep [4, 5])]) (.ret)) (.skip))) (.seq (.reg 0 [zm 0 58 6, zn 1 59 58, zm 2 60 0, zc 3 61 60, zf 4 62 61 0, zl 5 63 1 62, zf 6 64 3 1, zl 7 65 1 64, zx 8 66 1 63 65, zl 9 67 1 66, zn 10 68 67, za 11 69 .lss 59 68, zm 12 8 69, .g (.keep [0, 3, 6, 8])]) (.seq (.reg 0 [zm 0 70 0, zc 1 71 70, zf 2 72 71 0, zl 3 73 1 72, zf 4 74 3 1, zl 5 75 1 74, zm 6 76 6, zx 7 77 1 73 75, .o 8 (.store [] 1 (.tmp 77) (.tmp 76)), .g (.keep [8])]) (.seq (.reg 0 [zm 0 78 8, zm 1 4 78, zb 2 5 true, .g (.keep [4, 5])]) (.ret))))))))
def hallmarkref11_Store_Cut.rs : List Rs := [.sl 4, .sl 5]
theorem hallmarkref11_Store_Cut.ok : isFn Tryz.prog hallmarkref11_Store_Cut.id 79 hallmarkref11_Store_Cut.ann hallmarkref11_Store_Cut.ir hallmarkref11_Store_Cut.rs := ⟨Tryz.f22, _, Tryz.func22, rfl, rfl, by kernel_rfl, by kernel_rfl⟩
-- hallmark/branch.divided
def branch_divided.ann : List (Nat × RA) := [(0, rk [0, 1]), (1, ro [1, 6, 7] [0, 1, 2, 3, 4, 5, 6, 7]), (2, rk [1, 6, 7, 15]), (3, rk [6, 7]), (4, rk [4, 5])]
def branch_divided.ir : C := .seq (.reg 0 [zk 0 4 0, zk 1 5 0, .g (.keep [0, 1])]) (.seq (.reg 0 [zm 0 8 0, zm 1 9 1, za 2 10 .quo 8 9, zm 3 11 0, zm 4 12 1, za 5 13 .rem 11 12, zm 6 6 10, zm 7 7 13, .g (.keep [1, 6, 7])]) (.seq (.seq (.reg 0 [zm 0 14 7, zd 1 15 .lss 14 0, .g (.keep [1, 6, 7, 15])]) (.cond (.tmp 15) (.reg 0 [zm 0 16 6, zd 1 17 .sub 16 1, zm 2 18 7, zm 3 19 1, za 4 20 .add 18 19, zm 5 6 17, zm 6 7 20, .g (.keep [6, 7])]) (.skip))) (.seq (.reg 0 [zm 0 21 6, zm 1 22 7, zm 2 4 21, zm 3 5 22, .g (.keep [4, 5])]) (.ret))))
def branch_divided.rs : List Rs := [.sl 4, .sl 5]
theorem branch_divided.ok : isFn Tryz.prog branch_divided.id 23 branch_divided.ann branch_divided.ir branch_divided.rs := ⟨Tryz.f23, _, Tryz.func23, rfl, rfl, by kernel_rfl, by kernel_rfl⟩
-- (*hallmark/hallmarkref11.Store).Open
-- hallmark/hallmarkref17.modulo
-- (*hallmark/hallmarkref11.Store).Hi
-- (*hallmark/hallmarkref11.Store).Lo
-- slices.Clone[[]hallmark/dom.domain,hallmark/dom.domain]
def slices_Clone_Ldom_domain_dom_domain.ann : List (Nat × RA) := [(0, rk [0]), (1, rk [0, 4]), (2, rk [2]), (3, rp [2] [(0, [1000004])])]
def slices_Clone_Ldom_domain_dom_domain.ir : C := .seq (.reg 0 [.o 0 (.lt (some 2) (.mov (.const (.slice none 0 0)))), .g (.keep [0])]) (.seq (.seq (.reg 0 [zm 0 3 0, .o 1 (.lt (some 4) (.eqN false (.tmp 3))), .g (.keep [0, 4])]) (.cond (.tmp 4) (.seq (.reg 0 [.o 0 (.lt (some 2) (.mov (.const (.slice none 0 0)))), .g (.keep [2])]) (.ret)) (.skip))) (.seq (.reg 2 [.o 0 (.bsv (some 5) 4 0 [.a (.int .i64 0), .a (.int .i64 0), .a (.int .u32 0), .a (.int .u32 0)] []), zm 1 6 0, .o 2 (.app [] (some 7) 1 4 24 (.tmp 5) (.tmp 6)), zm 3 2 7, .g (.keep [2])]) (.ret)))
def slices_Clone_Ldom_domain_dom_domain.rs : List Rs := [.sl 2]
theorem slices_Clone_Ldom_domain_dom_domain.ok : isFn Tryz.prog slices_Clone_Ldom_domain_dom_domain.id 8 slices_Clone_Ldom_domain_dom_domain.ann slices_Clone_Ldom_domain_dom_domain.ir slices_Clone_Ldom_domain_dom_domain.rs := ⟨Tryz.f28, _, Tryz.func28, rfl, rfl, by kernel_rfl, by kernel_rfl⟩
-- (*hallmark/dom.Store).is
def dom_Store_is.ann : List (Nat × RA) := [(0, rk [0, 1]), (1, rk [4])]
def dom_Store_is.ir : C := .seq (.reg 0 [zb 0 4 false, .g (.keep [0, 1])]) (.seq (.reg 0 [zm 0 5 1, zd 1 6 .geq 5 0, zm 2 7 6, ym 3 7 true 8 1, ym 4 7 true 9 0, yc 5 7 true 10 9, yf 6 7 true 11 10 0, yl 7 7 true 12 1 11, yn 8 7 true 13 12, ya 9 7 true 14 .lss 8 13, zr 10 15 7 14 false, zm 11 4 15, .g (.keep [4])]) (.ret))
def dom_Store_is.rs : List Rs := [.sl 4]
theorem dom_Store_is.ok : isFn Tryz.prog dom_Store_is.id 16 dom_Store_is.ann dom_Store_is.ir dom_Store_is.rs := ⟨Tryz.f29, _, Tryz.func29, rfl, rfl, by kernel_rfl, by kernel_rfl⟩
-- hallmark/dom.goes
def dom_goes.ann : List (Nat × RA) := [(0, rk [1, 2]), (1, rk [1, 2, 6]), (2, rk [1, 2, 6, 7]), (3, rk [4]), (4, rk [1, 2, 13]), (5, rk [4]), (6, rk [4])]
def dom_goes.ir : C := .seq (.reg 1 [.o 0 (.box (some 2) 0 3 (.tmp 0)), zb 1 4 false, .g (.keep [1, 2])]) (.seq (.seq (.reg 0 [zf 0 5 2 0, zl 1 6 1 5, .g (.keep [1, 2, 6])]) (.block 0 (.seq (.reg 0 [zd 0 8 .eql 6 1, zm 1 7 8, .g (.keep [1, 2, 6, 7])]) (.cond (.tmp 7) (.seq (.reg 0 [zm 0 9 1, zf 1 10 2 2, zl 2 11 1 10, za 3 12 .lss 9 11, zm 4 4 12, .g (.keep [4])]) (.ret)) (.seq (.reg 0 [zd 0 14 .eql 6 2, zm 1 13 14, .g (.keep [1, 2, 13])]) (.cond (.tmp 13) (.seq (.reg 0 [zm 0 15 1, zf 1 16 2 2, zl 2 17 1 16, za 3 18 .gtr 15 17, zm 4 4 18, .g (.keep [4])]) (.ret)) (.skip))))))) (.seq (.reg 0 [zf 0 19 2 0, zl 1 20 1 19, zd 2 21 .eql 20 3, zm 3 22 21, ym 4 22 true 23 1, yf 5 22 true 24 2 2, yl 6 22 true 25 1 24, ya 7 22 true 26 .eql 23 25, zr 8 27 22 26 false, zm 9 4 27, .g (.keep [4])]) (.ret)))
def dom_goes.rs : List Rs := [.sl 4]
theorem dom_goes.ok : isFn Tryz.prog dom_goes.id 28 dom_goes.ann dom_goes.ir dom_goes.rs := ⟨Tryz.f30, _, Tryz.func30, rfl, rfl, by kernel_rfl, by kernel_rfl⟩
-- (*hallmark/dom.set).drop
def dom_set_drop.ann : List (Nat × RA) := [(0, ro [] [0, 1, 2, 3, 4, 5, 6, 7, 8, 9, 10, 11, 12])]
def dom_set_drop.ir : C := .reg 0 [zm 0 4 0, zm 1 5 1, zd 2 6 .quo 5 32, zc 3 7 4, .o 4 (.lt (some 8) (.ixA 2 1 (.tmp 7) (.tmp 6))), zl 5 9 1 8, zm 6 10 1, zd 7 11 .rem 10 32, .o 8 (.lt (some 12) (.bin .shl (.const (.int .u32 1)) (.tmp 11))), za 9 13 .andNot 9 12, zc 10 14 4, .o 11 (.lt (some 15) (.ixA 2 1 (.tmp 14) (.tmp 6))), .o 12 (.store [] 1 (.tmp 15) (.tmp 13)), .g (.keep [])]
def dom_set_drop.rs : List Rs := []
theorem dom_set_drop.ok : isFn Tryz.prog dom_set_drop.id 16 dom_set_drop.ann dom_set_drop.ir dom_set_drop.rs := ⟨Tryz.f31, _, Tryz.func31, rfl, rfl, by kernel_rfl, by kernel_rfl⟩
-- (*hallmark/dom.set).size
def dom_set_size.ann : List (Nat × RA) := [(0, rk [0]), (1, rk [0, 3]), (2, rk [3, 6, 7]), (3, rk [3, 6, 7, 8]), (4, rk [3, 5, 6, 7]), (5, rk [3, 6, 7]), (6, rk [3, 6, 7]), (7, rk [2])]
def dom_set_size.b0 : C := .seq (.reg 0 [zd 0 8 .lss 7 2, .g (.keep [3, 6, 7, 8])]) (.seq (.cond (.tmp 8) (.skip) (.exit 0)) (.seq (.block 1 (.seq (.reg 0 [zc 0 9 6, .o 1 (.lt (some 10) (.ixA 2 1 (.tmp 9) (.tmp 7))), zl 2 11 1 10, zm 3 5 11, .g (.keep [3, 5, 6, 7])]) (.reg 0 [zm 0 12 3, zm 1 13 5, .o 2 (.call (some 14) math_bits_OnesCount32.id [(.tmp 13)]), za 3 15 .add 12 14, zm 4 3 15, .g (.keep [3, 6, 7])]))) (.reg 0 [zd 0 16 .add 7 1, zm 1 7 16, .g (.keep [3, 6, 7])])))
def dom_set_size.ir : C := .seq (.reg 0 [zk 0 2 0, .g (.keep [0])]) (.seq (.reg 0 [zk 0 3 0, .g (.keep [0, 3])]) (.seq (.seq (.reg 0 [zm 0 6 0, zk 1 7 0, .g (.keep [3, 6, 7])]) (.block 0 (.loop dom_set_size.b0))) (.seq (.reg 0 [zm 0 17 3, zm 1 2 17, .g (.keep [2])]) (.ret))))
def dom_set_size.rs : List Rs := [.sl 2]
theorem dom_set_size.ok : isFn Tryz.prog dom_set_size.id 18 dom_set_size.ann dom_set_size.ir dom_set_size.rs := ⟨Tryz.f32, _, Tryz.func32, rfl, rfl, by kernel_rfl, by kernel_rfl⟩
-- (*hallmark/dom.set).has
def dom_set_has.ann : List (Nat × RA) := [(0, rk [0, 1]), (1, rk [4])]
def dom_set_has.ir : C := .seq (.reg 0 [zb 0 4 false, .g (.keep [0, 1])]) (.seq (.reg 0 [zm 0 5 0, zm 1 6 1, zd 2 7 .quo 6 32, zc 3 8 5, .o 4 (.lt (some 9) (.ixA 2 1 (.tmp 8) (.tmp 7))), zl 5 10 1 9, zm 6 11 1, zd 7 12 .rem 11 32, za 8 13 .shr 10 12, .o 9 (.lt (some 14) (.bin .and (.tmp 13) (.const (.int .u32 1)))), .o 10 (.lt (some 15) (.bin .eql (.tmp 14) (.const (.int .u32 1)))), zm 11 4 15, .g (.keep [4])]) (.ret))
def dom_set_has.rs : List Rs := [.sl 4]
theorem dom_set_has.ok : isFn Tryz.prog dom_set_has.id 16 dom_set_has.ann dom_set_has.ir dom_set_has.rs := ⟨Tryz.f33, _, Tryz.func33, rfl, rfl, by kernel_rfl, by kernel_rfl⟩
-- hallmark/model.Check
def model_Check.ann : List (Nat × RA) := [(0, rk [1]), (1, rk [1, 19]), (2, rk [2, 3]), (3, rk [1, 22, 23]), (4, rk [1, 22, 23, 24]), (5, rk [1, 4, 22, 23]), (6, rk [1, 4, 5, 22, 23]), (7, rk [1, 4, 5, 22, 23, 31]), (8, rk [2, 3]), (9, rk [1, 22, 23]), (10, rk [1, 38]), (11, rk [2, 3]), (12, rk [1, 43, 44, 45]), (13, rk [1, 43, 44, 45, 46]), (14, rk [1, 6, 7, 43, 44, 45]), (15, rk [1, 6, 8, 43, 44, 45]), (16, rk [1, 6, 8, 43, 44, 45, 56]), (17, rk [2, 3]), (18, rk [1, 43, 44, 45]), (19, rk [1, 9]), (20, rk [1, 9, 67]), (21, rk [2, 3]), (22, rk [2, 3])]
def model_Check.b1 : C := .seq (.reg 0 [za 0 46 .lss 45 44, .g (.keep [1, 43, 44, 45, 46])]) (.seq (.cond (.tmp 46) (.skip) (.exit 2)) (.seq (.block 3 (.seq (.reg 1 [zm 0 47 45, zx 1 48 10 43 45, zL 2 49 10 48, .o 3 (.alloc (some 7) 0 10 [.a (.int .i64 0), .a (.int .i64 0), .a (.slice none 0 0), .a (.int .i64 0), .a (.int .i64 0), .a (.int .i64 0), .a (.int .i64 0), .a (.slice none 0 0), .a (.slice none 0 0), .a (.slice none 0 0)]), zm 4 6 47, .o 5 (.store [] 10 (.tmp 7) (.tmp 49)), .g (.keep [1, 6, 7, 43, 44, 45])]) (.seq (.reg 0 [zL 0 50 10 7, zf 1 51 1 0, zl 2 52 1 51, zn 3 53 52, .o 4 (.call (some 54) model_con.id [(.tmp 50), (.tmp 53)]), zm 5 8 54, .g (.keep [1, 6, 8, 43, 44, 45])]) (.seq (.reg 0 [zm 0 55 8, zd 1 56 .neq 55 0, .g (.keep [1, 6, 8, 43, 44, 45, 56])]) (.cond (.tmp 56) (.seq (.reg 0 [zf 0 57 1 0, zl 1 58 1 57, zn 2 59 58, zm 3 60 6, za 4 61 .add 59 60, zm 5 62 8, zm 6 2 61, zm 7 3 62, .g (.keep [2, 3])]) (.ret)) (.skip)))))) (.reg 0 [zd 0 63 .add 45 1, zm 1 45 63, .g (.keep [1, 43, 44, 45])])))
def model_Check.b0 : C := .seq (.reg 0 [za 0 24 .lss 23 22, .g (.keep [1, 22, 23, 24])]) (.seq (.cond (.tmp 24) (.skip) (.exit 0)) (.seq (.block 1 (.seq (.reg 0 [zm 0 25 23, zm 1 4 25, .g (.keep [1, 4, 22, 23])]) (.seq (.reg 0 [zf 0 26 1 0, zl 1 27 1 26, zm 2 28 4, .o 3 (.call (some 29) model_variable.id [(.tmp 27), (.tmp 28)]), zm 4 5 29, .g (.keep [1, 4, 5, 22, 23])]) (.seq (.reg 0 [zm 0 30 5, zd 1 31 .neq 30 0, .g (.keep [1, 4, 5, 22, 23, 31])]) (.cond (.tmp 31) (.seq (.reg 0 [zm 0 32 4, zm 1 33 5, zm 2 2 32, zm 3 3 33, .g (.keep [2, 3])]) (.ret)) (.skip)))))) (.reg 0 [zd 0 34 .add 23 1, zm 1 23 34, .g (.keep [1, 22, 23])])))
def model_Check.ir : C := .seq (.reg 1 [.o 0 (.box (some 1) 0 4 (.tmp 0)), zk 1 2 0, zk 2 3 0, .g (.keep [1])]) (.seq (.seq (.reg 0 [zf 0 10 1 0, zl 1 11 1 10, zn 2 12 11, zd 3 13 .eql 12 0, zm 4 14 13, yf 5 14 false 15 1 0, yl 6 14 false 16 1 15, yn 7 14 false 17 16, yd 8 14 false 18 .gtr 17 32, zp 9 19 14 true 18, .g (.keep [1, 19])]) (.cond (.tmp 19) (.seq (.reg 0 [zk 0 2 0, zk 1 3 40, .g (.keep [2, 3])]) (.ret)) (.skip))) (.seq (.seq (.reg 0 [zf 0 20 1 0, zl 1 21 1 20, zn 2 22 21, zk 3 23 0, .g (.keep [1, 22, 23])]) (.block 0 (.loop model_Check.b0))) (.seq (.seq (.reg 0 [zf 0 35 1 1, zl 1 36 1 35, zn 2 37 36, zd 3 38 .gtr 37 64, .g (.keep [1, 38])]) (.cond (.tmp 38) (.seq (.reg 0 [zf 0 39 1 0, zl 1 40 1 39, zn 2 41 40, zm 3 2 41, zk 4 3 49, .g (.keep [2, 3])]) (.ret)) (.skip))) (.seq (.seq (.reg 0 [zf 0 42 1 1, zl 1 43 1 42, zn 2 44 43, zk 3 45 0, .g (.keep [1, 43, 44, 45])]) (.block 2 (.loop model_Check.b1))) (.seq (.seq (.reg 0 [zL 0 64 4 1, .o 1 (.call (some 65) model_goal.id [(.tmp 64)]), zm 2 9 65, .g (.keep [1, 9])]) (.seq (.reg 0 [zm 0 66 9, zd 1 67 .neq 66 0, .g (.keep [1, 9, 67])]) (.cond (.tmp 67) (.seq (.reg 0 [zf 0 68 1 0, zl 1 69 1 68, zn 2 70 69, zf 3 71 1 1, zl 4 72 1 71, zn 5 73 72, za 6 74 .add 70 73, zm 7 75 9, zm 8 2 74, zm 9 3 75, .g (.keep [2, 3])]) (.ret)) (.skip)))) (.seq (.reg 0 [zk 0 2 0, zk 1 3 0, .g (.keep [2, 3])]) (.ret)))))))
def model_Check.rs : List Rs := [.sl 2, .sl 3]
theorem model_Check.ok : isFn Tryz.prog model_Check.id 76 model_Check.ann model_Check.ir model_Check.rs := ⟨Tryz.f34, _, Tryz.func34, rfl, rfl, by kernel_rfl, by kernel_rfl⟩
-- slices.Clone[[]int,int]
def slices_Clone_Lint_int.ann : List (Nat × RA) := [(0, rk [0]), (1, rk [0, 4]), (2, rk [2]), (3, rp [2] [(0, [1000004])])]
def slices_Clone_Lint_int.ir : C := .seq (.reg 0 [.o 0 (.lt (some 2) (.mov (.const (.slice none 0 0)))), .g (.keep [0])]) (.seq (.seq (.reg 0 [zm 0 3 0, .o 1 (.lt (some 4) (.eqN false (.tmp 3))), .g (.keep [0, 4])]) (.cond (.tmp 4) (.seq (.reg 0 [.o 0 (.lt (some 2) (.mov (.const (.slice none 0 0)))), .g (.keep [2])]) (.ret)) (.skip))) (.seq (.reg 2 [.o 0 (.bsv (some 5) 1 0 [.a (.int .i64 0)] []), zm 1 6 0, .o 2 (.app [] (some 7) 1 1 8 (.tmp 5) (.tmp 6)), zm 3 2 7, .g (.keep [2])]) (.ret)))
def slices_Clone_Lint_int.rs : List Rs := [.sl 2]
theorem slices_Clone_Lint_int.ok : isFn Tryz.prog slices_Clone_Lint_int.id 8 slices_Clone_Lint_int.ann slices_Clone_Lint_int.ir slices_Clone_Lint_int.rs := ⟨Tryz.f35, _, Tryz.func35, rfl, rfl, by kernel_rfl, by kernel_rfl⟩
-- hallmark/hallmarkref4.Check
def hallmarkref4_Check.ann : List (Nat × RA) := [(0, rk [1]), (1, rk [1, 4, 5]), (2, rk [1, 4, 5, 15]), (3, rk [2, 3]), (4, rk [1, 6]), (5, rk [1, 6, 24]), (6, rk [2, 3]), (7, rk [1, 6, 7]), (8, rk [1, 6, 7, 30]), (9, rk [1, 6, 7]), (10, rk [1, 5, 6, 7]), (11, rk [1, 5, 6, 7, 41]), (12, rk [2, 3]), (13, rk [1, 4, 6]), (14, rk [1, 4, 6, 53]), (15, rk [4, 57]), (16, rk [2, 3]), (17, rk [2, 3]), (18, rk [1, 4, 6, 62]), (19, rk [2, 3]), (20, rk [4, 5]), (21, rk [4, 5, 69]), (22, rk [2, 3]), (23, rk [2, 3])]
def hallmarkref4_Check.b0 : C := .seq (.seq (.reg 0 [zm 0 26 7, zf 1 27 1 1, zl 2 28 1 27, zn 3 29 28, za 4 30 .lss 26 29, .g (.keep [1, 6, 7, 30])]) (.cond (.tmp 30) (.skip) (.exit 0))) (.seq (.block 1 (.seq (.reg 0 [zf 0 33 1 1, zl 1 34 1 33, zm 2 35 7, zx 3 36 10 34 35, zL 4 37 10 36, zm 5 38 6, .o 6 (.call (some 39) hallmarkref4_Con.id [(.tmp 37), (.tmp 38)]), zm 7 5 39, .g (.keep [1, 5, 6, 7])]) (.seq (.reg 0 [zm 0 40 5, zd 1 41 .neq 40 0, .g (.keep [1, 5, 6, 7, 41])]) (.cond (.tmp 41) (.seq (.reg 0 [zm 0 42 6, zm 1 43 7, za 2 44 .add 42 43, zm 3 45 5, zm 4 2 44, zm 5 3 45, .g (.keep [2, 3])]) (.ret)) (.skip))))) (.reg 0 [zm 0 31 7, zd 1 32 .add 31 1, zm 2 7 32, .g (.keep [1, 6, 7])]))
def hallmarkref4_Check.ir : C := .seq (.reg 1 [.o 0 (.box (some 1) 0 4 (.tmp 0)), zk 1 2 0, zk 2 3 0, .g (.keep [1])]) (.seq (.reg 0 [zf 0 9 1 0, zl 1 10 1 9, .o 2 (.call (some 11) hallmarkref4_vars.id [(.tmp 10)]), zm 3 8 11, ze 4 12 8 0, ze 5 13 8 1, zm 6 4 12, zm 7 5 13, .g (.keep [1, 4, 5])]) (.seq (.seq (.reg 0 [zm 0 14 5, zd 1 15 .neq 14 0, .g (.keep [1, 4, 5, 15])]) (.cond (.tmp 15) (.seq (.reg 0 [zm 0 16 4, zm 1 17 5, zm 2 2 16, zm 3 3 17, .g (.keep [2, 3])]) (.ret)) (.skip))) (.seq (.reg 0 [zf 0 18 1 0, zl 1 19 1 18, zn 2 20 19, zm 3 6 20, .g (.keep [1, 6])]) (.seq (.seq (.reg 0 [zf 0 21 1 1, zl 1 22 1 21, zn 2 23 22, zd 3 24 .gtr 23 64, .g (.keep [1, 6, 24])]) (.cond (.tmp 24) (.seq (.reg 0 [zm 0 25 6, zm 1 2 25, zk 2 3 49, .g (.keep [2, 3])]) (.ret)) (.skip))) (.seq (.seq (.reg 0 [zk 0 7 0, .g (.keep [1, 6, 7])]) (.block 0 (.loop hallmarkref4_Check.b0))) (.seq (.reg 0 [zm 0 46 6, zf 1 47 1 1, zl 2 48 1 47, zn 3 49 48, za 4 50 .add 46 49, zm 5 4 50, .g (.keep [1, 4, 6])]) (.seq (.seq (.reg 0 [zf 0 51 1 2, zl 1 52 1 51, zq 2 53 52, .g (.keep [1, 4, 6, 53])]) (.cond (.tmp 53) (.seq (.seq (.reg 0 [zf 0 54 1 3, zl 1 55 1 54, zn 2 56 55, zd 3 57 .gtr 56 0, .g (.keep [4, 57])]) (.cond (.tmp 57) (.seq (.reg 0 [zm 0 58 4, zm 1 2 58, zk 2 3 48, .g (.keep [2, 3])]) (.ret)) (.skip))) (.seq (.reg 0 [zk 0 2 0, zk 1 3 0, .g (.keep [2, 3])]) (.ret))) (.skip))) (.seq (.seq (.reg 0 [zf 0 59 1 3, zl 1 60 1 59, zn 2 61 60, .o 3 (.call (some 62) hallmarkref4_many.id [(.tmp 61)]), .g (.keep [1, 4, 6, 62])]) (.cond (.tmp 62) (.seq (.reg 0 [zm 0 63 4, zm 1 2 63, zk 2 3 47, .g (.keep [2, 3])]) (.ret)) (.skip))) (.seq (.reg 0 [zf 0 64 1 3, zl 1 65 1 64, zm 2 66 6, .o 3 (.call (some 67) hallmarkref4_terms.id [(.tmp 65), (.tmp 66)]), zm 4 5 67, .g (.keep [4, 5])]) (.seq (.seq (.reg 0 [zm 0 68 5, zd 1 69 .neq 68 0, .g (.keep [4, 5, 69])]) (.cond (.tmp 69) (.seq (.reg 0 [zm 0 70 4, zm 1 71 5, zm 2 2 70, zm 3 3 71, .g (.keep [2, 3])]) (.ret)) (.skip))) (.seq (.reg 0 [zk 0 2 0, zk 1 3 0, .g (.keep [2, 3])]) (.ret))))))))))))
def hallmarkref4_Check.rs : List Rs := [.sl 2, .sl 3]
theorem hallmarkref4_Check.ok : isFn Tryz.prog hallmarkref4_Check.id 72 hallmarkref4_Check.ann hallmarkref4_Check.ir hallmarkref4_Check.rs := ⟨Tryz.f36, _, Tryz.func36, rfl, rfl, by kernel_rfl, by kernel_rfl⟩
-- (*hallmark/hallmarkref11.Store).is
def hallmarkref11_Store_is.ann : List (Nat × RA) := [(0, rk [0, 1]), (1, rk [4])]
def hallmarkref11_Store_is.ir : C := .seq (.reg 0 [zb 0 4 false, .g (.keep [0, 1])]) (.seq (.reg 0 [zm 0 5 1, zd 1 6 .geq 5 0, zm 2 7 6, ym 3 7 true 8 1, ym 4 7 true 9 0, yc 5 7 true 10 9, yf 6 7 true 11 10 0, yl 7 7 true 12 1 11, yn 8 7 true 13 12, ya 9 7 true 14 .lss 8 13, zr 10 15 7 14 false, zm 11 4 15, .g (.keep [4])]) (.ret))
def hallmarkref11_Store_is.rs : List Rs := [.sl 4]
theorem hallmarkref11_Store_is.ok : isFn Tryz.prog hallmarkref11_Store_is.id 16 hallmarkref11_Store_is.ann hallmarkref11_Store_is.ir hallmarkref11_Store_is.rs := ⟨Tryz.f37, _, Tryz.func37, rfl, rfl, by kernel_rfl, by kernel_rfl⟩
-- hallmark/hallmarkref11.Goes
def hallmarkref11_Goes.ann : List (Nat × RA) := [(0, rk [1, 2]), (1, rk [1, 2, 6]), (2, rk [1, 2, 6, 7]), (3, rk [4]), (4, rk [1, 2, 6, 13]), (5, rk [4]), (6, rk [1, 2, 19]), (7, rk [4]), (8, rk [4])]
def hallmarkref11_Goes.ir : C := .seq (.reg 1 [.o 0 (.box (some 2) 0 3 (.tmp 0)), zb 1 4 false, .g (.keep [1, 2])]) (.seq (.seq (.reg 0 [zf 0 5 2 0, zl 1 6 1 5, .g (.keep [1, 2, 6])]) (.block 0 (.seq (.reg 0 [zd 0 8 .eql 6 1, zm 1 7 8, .g (.keep [1, 2, 6, 7])]) (.cond (.tmp 7) (.seq (.reg 0 [zm 0 9 1, zf 1 10 2 2, zl 2 11 1 10, za 3 12 .lss 9 11, zm 4 4 12, .g (.keep [4])]) (.ret)) (.seq (.reg 0 [zd 0 14 .eql 6 2, zm 1 13 14, .g (.keep [1, 2, 6, 13])]) (.cond (.tmp 13) (.seq (.reg 0 [zm 0 15 1, zf 1 16 2 2, zl 2 17 1 16, za 3 18 .gtr 15 17, zm 4 4 18, .g (.keep [4])]) (.ret)) (.seq (.reg 0 [zd 0 20 .eql 6 3, zm 1 19 20, .g (.keep [1, 2, 19])]) (.cond (.tmp 19) (.seq (.reg 0 [zm 0 21 1, zf 1 22 2 2, zl 2 23 1 22, za 3 24 .eql 21 23, zm 4 4 24, .g (.keep [4])]) (.ret)) (.skip))))))))) (.seq (.reg 0 [zb 0 4 false, .g (.keep [4])]) (.ret)))
def hallmarkref11_Goes.rs : List Rs := [.sl 4]
theorem hallmarkref11_Goes.ok : isFn Tryz.prog hallmarkref11_Goes.id 25 hallmarkref11_Goes.ann hallmarkref11_Goes.ir hallmarkref11_Goes.rs := ⟨Tryz.f38, _, Tryz.func38, rfl, rfl, by kernel_rfl, by kernel_rfl⟩
-- math/bits.OnesCount32
def math_bits_OnesCount32.ann : List (Nat × RA) := [(0, rk [0]), (1, ro [2] [0, 1, 2, 3, 4, 5, 6, 7, 8, 9, 10, 11, 12, 13, 14, 15, 16, 17, 18])]
def math_bits_OnesCount32.ir : C := .seq (.reg 0 [zk 0 2 0, .g (.keep [0])]) (.seq (.reg 0 [zm 0 3 0, .o 1 (.lt (some 4) (.bin .shr (.tmp 3) (.const (.int .u64 24)))), .o 2 (.lt (some 5) (.ixStr (.const (.string { data := #[0, 1, 1, 2, 1, 2, 2, 3, 1, 2, 2, 3, 2, 3, 3, 4, 1, 2, 2, 3, 2, 3, 3, 4, 2, 3, 3, 4, 3, 4, 4, 5, 1, 2, 2, 3, 2, 3, 3, 4, 2, 3, 3, 4, 3, 4, 4, 5, 2, 3, 3, 4, 3, 4, 4, 5, 3, 4, 4, 5, 4, 5, 5, 6, 1, 2, 2, 3, 2, 3, 3, 4, 2, 3, 3, 4, 3, 4, 4, 5, 2, 3, 3, 4, 3, 4, 4, 5, 3, 4, 4, 5, 4, 5, 5, 6, 2, 3, 3, 4, 3, 4, 4, 5, 3, 4, 4, 5, 4, 5, 5, 6, 3, 4, 4, 5, 4, 5, 5, 6, 4, 5, 5, 6, 5, 6, 6, 7, 1, 2, 2, 3, 2, 3, 3, 4, 2, 3, 3, 4, 3, 4, 4, 5, 2, 3, 3, 4, 3, 4, 4, 5, 3, 4, 4, 5, 4, 5, 5, 6, 2, 3, 3, 4, 3, 4, 4, 5, 3, 4, 4, 5, 4, 5, 5, 6, 3, 4, 4, 5, 4, 5, 5, 6, 4, 5, 5, 6, 5, 6, 6, 7, 2, 3, 3, 4, 3, 4, 4, 5, 3, 4, 4, 5, 4, 5, 5, 6, 3, 4, 4, 5, 4, 5, 5, 6, 4, 5, 5, 6, 5, 6, 6, 7, 3, 4, 4, 5, 4, 5, 5, 6, 4, 5, 5, 6, 5, 6, 6, 7, 4, 5, 5, 6, 5, 6, 6, 7, 5, 6, 6, 7, 6, 7, 7, 8] })) (.tmp 4))), zm 3 6 0, .o 4 (.lt (some 7) (.bin .shr (.tmp 6) (.const (.int .u64 16)))), .o 5 (.lt (some 8) (.bin .and (.tmp 7) (.const (.int .u32 255)))), .o 6 (.lt (some 9) (.ixStr (.const (.string { data := #[0, 1, 1, 2, 1, 2, 2, 3, 1, 2, 2, 3, 2, 3, 3, 4, 1, 2, 2, 3, 2, 3, 3, 4, 2, 3, 3, 4, 3, 4, 4, 5, 1, 2, 2, 3, 2, 3, 3, 4, 2, 3, 3, 4, 3, 4, 4, 5, 2, 3, 3, 4, 3, 4, 4, 5, 3, 4, 4, 5, 4, 5, 5, 6, 1, 2, 2, 3, 2, 3, 3, 4, 2, 3, 3, 4, 3, 4, 4, 5, 2, 3, 3, 4, 3, 4, 4, 5, 3, 4, 4, 5, 4, 5, 5, 6, 2, 3, 3, 4, 3, 4, 4, 5, 3, 4, 4, 5, 4, 5, 5, 6, 3, 4, 4, 5, 4, 5, 5, 6, 4, 5, 5, 6, 5, 6, 6, 7, 1, 2, 2, 3, 2, 3, 3, 4, 2, 3, 3, 4, 3, 4, 4, 5, 2, 3, 3, 4, 3, 4, 4, 5, 3, 4, 4, 5, 4, 5, 5, 6, 2, 3, 3, 4, 3, 4, 4, 5, 3, 4, 4, 5, 4, 5, 5, 6, 3, 4, 4, 5, 4, 5, 5, 6, 4, 5, 5, 6, 5, 6, 6, 7, 2, 3, 3, 4, 3, 4, 4, 5, 3, 4, 4, 5, 4, 5, 5, 6, 3, 4, 4, 5, 4, 5, 5, 6, 4, 5, 5, 6, 5, 6, 6, 7, 3, 4, 4, 5, 4, 5, 5, 6, 4, 5, 5, 6, 5, 6, 6, 7, 4, 5, 5, 6, 5, 6, 6, 7, 5, 6, 6, 7, 6, 7, 7, 8] })) (.tmp 8))), za 7 10 .add 5 9, zm 8 11 0, .o 9 (.lt (some 12) (.bin .shr (.tmp 11) (.const (.int .u64 8)))), .o 10 (.lt (some 13) (.bin .and (.tmp 12) (.const (.int .u32 255)))), .o 11 (.lt (some 14) (.ixStr (.const (.string { data := #[0, 1, 1, 2, 1, 2, 2, 3, 1, 2, 2, 3, 2, 3, 3, 4, 1, 2, 2, 3, 2, 3, 3, 4, 2, 3, 3, 4, 3, 4, 4, 5, 1, 2, 2, 3, 2, 3, 3, 4, 2, 3, 3, 4, 3, 4, 4, 5, 2, 3, 3, 4, 3, 4, 4, 5, 3, 4, 4, 5, 4, 5, 5, 6, 1, 2, 2, 3, 2, 3, 3, 4, 2, 3, 3, 4, 3, 4, 4, 5, 2, 3, 3, 4, 3, 4, 4, 5, 3, 4, 4, 5, 4, 5, 5, 6, 2, 3, 3, 4, 3, 4, 4, 5, 3, 4, 4, 5, 4, 5, 5, 6, 3, 4, 4, 5, 4, 5, 5, 6, 4, 5, 5, 6, 5, 6, 6, 7, 1, 2, 2, 3, 2, 3, 3, 4, 2, 3, 3, 4, 3, 4, 4, 5, 2, 3, 3, 4, 3, 4, 4, 5, 3, 4, 4, 5, 4, 5, 5, 6, 2, 3, 3, 4, 3, 4, 4, 5, 3, 4, 4, 5, 4, 5, 5, 6, 3, 4, 4, 5, 4, 5, 5, 6, 4, 5, 5, 6, 5, 6, 6, 7, 2, 3, 3, 4, 3, 4, 4, 5, 3, 4, 4, 5, 4, 5, 5, 6, 3, 4, 4, 5, 4, 5, 5, 6, 4, 5, 5, 6, 5, 6, 6, 7, 3, 4, 4, 5, 4, 5, 5, 6, 4, 5, 5, 6, 5, 6, 6, 7, 4, 5, 5, 6, 5, 6, 6, 7, 5, 6, 6, 7, 6, 7, 7, 8] })) (.tmp 13))), za 12 15 .add 10 14, zm 13 16 0, .o 14 (.lt (some 17) (.bin .and (.tmp 16) (.const (.int .u32 255)))), .o 15 (.lt (some 18) (.ixStr (.const (.string { data := #[0, 1, 1, 2, 1, 2, 2, 3, 1, 2, 2, 3, 2, 3, 3, 4, 1, 2, 2, 3, 2, 3, 3, 4, 2, 3, 3, 4, 3, 4, 4, 5, 1, 2, 2, 3, 2, 3, 3, 4, 2, 3, 3, 4, 3, 4, 4, 5, 2, 3, 3, 4, 3, 4, 4, 5, 3, 4, 4, 5, 4, 5, 5, 6, 1, 2, 2, 3, 2, 3, 3, 4, 2, 3, 3, 4, 3, 4, 4, 5, 2, 3, 3, 4, 3, 4, 4, 5, 3, 4, 4, 5, 4, 5, 5, 6, 2, 3, 3, 4, 3, 4, 4, 5, 3, 4, 4, 5, 4, 5, 5, 6, 3, 4, 4, 5, 4, 5, 5, 6, 4, 5, 5, 6, 5, 6, 6, 7, 1, 2, 2, 3, 2, 3, 3, 4, 2, 3, 3, 4, 3, 4, 4, 5, 2, 3, 3, 4, 3, 4, 4, 5, 3, 4, 4, 5, 4, 5, 5, 6, 2, 3, 3, 4, 3, 4, 4, 5, 3, 4, 4, 5, 4, 5, 5, 6, 3, 4, 4, 5, 4, 5, 5, 6, 4, 5, 5, 6, 5, 6, 6, 7, 2, 3, 3, 4, 3, 4, 4, 5, 3, 4, 4, 5, 4, 5, 5, 6, 3, 4, 4, 5, 4, 5, 5, 6, 4, 5, 5, 6, 5, 6, 6, 7, 3, 4, 4, 5, 4, 5, 5, 6, 4, 5, 5, 6, 5, 6, 6, 7, 4, 5, 5, 6, 5, 6, 6, 7, 5, 6, 6, 7, 6, 7, 7, 8] })) (.tmp 17))), za 16 19 .add 15 18, .o 17 (.lt (some 20) (.conv .i64 (.tmp 19))), zm 18 2 20, .g (.keep [2])]) (.ret))
def math_bits_OnesCount32.rs : List Rs := [.sl 2]
theorem math_bits_OnesCount32.ok : isFn Tryz.prog math_bits_OnesCount32.id 21 math_bits_OnesCount32.ann math_bits_OnesCount32.ir math_bits_OnesCount32.rs := ⟨Tryz.f39, _, Tryz.func39, rfl, rfl, by kernel_rfl, by kernel_rfl⟩
-- hallmark/model.variable
def model_variable.ann : List (Nat × RA) := [(0, rk [0, 1]), (1, rk [0, 1, 5]), (2, rp [5, 20] [(9, [1000001])]), (3, rk [4]), (4, rk [45]), (5, rk [4]), (6, rk [4])]
def model_variable.ir : C := .seq (.reg 0 [zk 0 4 0, .g (.keep [0, 1])]) (.seq (.reg 1 [zm 0 6 0, zm 1 7 1, zx 2 8 3 6 7, zL 3 9 3 8, .o 4 (.alloc (some 5) 0 3 [.a (.string ⟨#[]⟩), .a (.int .i64 0), .a (.int .i64 0)]), .o 5 (.store [] 3 (.tmp 5) (.tmp 9)), .g (.keep [0, 1, 5])]) (.seq (.seq (.reg 0 [zf 0 10 5 0, zl 1 11 1 10, .o 2 (.call (some 12) model_isName.id [(.tmp 11)]), zq 3 13 12, zm 4 14 13, ym 5 14 false 15 0, ym 6 14 false 16 1, .gd 7 14 false (some 17) (.lt (some 17) (.slSl 3 (.tmp 15) none (some (.tmp 16)))), .gd 8 14 false (some 18) (.lt (some 18) (.mkfn (.func model_variable_1.id) [] [(.tmp 5)])), .gd 9 14 false (some 19) (.callb (some 19) (.func slices_ContainsFunc_Lapi_Var_api_Var.id) [(.tmp 17), (.tmp 18)]), zp 10 20 14 true 19, .g (.keep [5, 20])]) (.cond (.tmp 20) (.seq (.reg 0 [zk 0 4 41, .g (.keep [4])]) (.ret)) (.skip))) (.seq (.seq (.reg 0 [zf 0 21 5 1, zl 1 22 1 21, .o 2 (.call (some 23) model_within.id [(.tmp 22), (.const (.int .i64 1000000000))]), zq 3 24 23, zm 4 25 24, yf 5 25 false 26 5 2, yl 6 25 false 27 1 26, .gd 7 25 false (some 28) (.call (some 28) model_within.id [(.tmp 27), (.const (.int .i64 1000000000))]), yq 8 25 false 29 28, zp 9 30 25 true 29, zm 10 31 30, yf 11 31 false 32 5 1, yl 12 31 false 33 1 32, yf 13 31 false 34 5 2, yl 14 31 false 35 1 34, ya 15 31 false 36 .gtr 33 35, zp 16 37 31 true 36, zm 17 38 37, yf 18 38 false 39 5 2, yl 19 38 false 40 1 39, yf 20 38 false 41 5 1, yl 21 38 false 42 1 41, ya 22 38 false 43 .sub 40 42, yd 23 38 false 44 .geq 43 64, zp 24 45 38 true 44, .g (.keep [45])]) (.cond (.tmp 45) (.seq (.reg 0 [zk 0 4 42, .g (.keep [4])]) (.ret)) (.skip))) (.seq (.reg 0 [zk 0 4 0, .g (.keep [4])]) (.ret)))))
def model_variable.rs : List Rs := [.sl 4]
theorem model_variable.ok : isFn Tryz.prog model_variable.id 46 model_variable.ann model_variable.ir model_variable.rs := ⟨Tryz.f40, _, Tryz.func40, rfl, rfl, by kernel_rfl, by kernel_rfl⟩
-- hallmark/model.con
def model_con.ann : List (Nat × RA) := [(0, rk [2, 3]), (1, ro [2, 3, 5, 6] [1, 2, 0, 3, 4, 5, 6, 7, 8, 9]), (2, rk [2, 3, 5, 32]), (3, rk [4]), (4, rk [2, 3, 5, 7, 8]), (5, rk [2, 5, 7, 8, 9]), (6, rk [2, 5, 7, 8, 9, 41]), (7, rk [4]), (8, rk [2, 5, 7, 8, 9, 45]), (9, rk [2, 5, 7, 8, 9, 45]), (10, rk [2, 5, 7, 8, 9, 45]), (11, rk [2, 5, 7, 8, 9, 45]), (12, rk [4]), (13, rk [2, 5, 8, 9, 70]), (14, rp [2, 5, 8, 9, 70] [(6, [1000001])]), (15, rp [2, 8, 9, 70] [(6, [1000001])]), (16, rp [2, 8, 70] [(3, [1000001])]), (17, rk [4]), (18, rk [2, 92]), (19, rk [4]), (20, rk [2, 94]), (21, rk [2, 94]), (22, rk [2, 94]), (23, rp [94] [(2, [1000001])]), (24, rk [4]), (25, rk [4])]
def model_con.ir : C := .seq (.reg 2 [.o 0 (.box (some 2) 0 10 (.tmp 0)), .o 1 (.box (some 3) 1 1 (.tmp 1)), zk 2 4 0, .g (.keep [2, 3])]) (.seq (.reg 1 [zf 1 12 2 0, zl 2 13 1 12, .o 0 (.call (some 11) model_kinds.id []), .o 3 (.lt (some 14) (.lkp true .i64 (.agg [.a (.bool false), .a (.bool false), .a (.bool false), .a (.bool false), .a (.bool false), .a (.bool false), .a (.bool false), .a (.bool false), .a (.bool false), .a (.nilFunc)]) (.tmp 11) (.tmp 13))), zm 4 10 14, ze 5 15 10 0, ze 6 16 10 1, .o 7 (.alloc (some 5) 0 10 [.a (.bool false), .a (.bool false), .a (.bool false), .a (.bool false), .a (.bool false), .a (.bool false), .a (.bool false), .a (.bool false), .a (.bool false), .a (.nilFunc)]), .o 8 (.store [] 10 (.tmp 5) (.tmp 15)), zm 9 6 16, .g (.keep [2, 3, 5, 6])]) (.seq (.seq (.reg 0 [zm 0 17 6, zq 1 18 17, zm 2 19 18, yf 3 19 false 20 5 7, yl 4 19 false 21 1 20, ym 5 19 false 22 21, yf 6 22 true 23 2 1, yl 7 22 true 24 1 23, yd 8 22 true 25 .lss 24 1, ym 9 22 true 26 25, yf 10 26 false 27 2 1, yl 11 26 false 28 1 27, yd 12 26 false 29 .gtr 28 3, yp 13 22 true 30 26 true 29, yr 14 19 false 31 22 30 false, zp 15 32 19 true 31, .g (.keep [2, 3, 5, 32])]) (.cond (.tmp 32) (.seq (.reg 0 [zk 0 4 43, .g (.keep [4])]) (.ret)) (.skip))) (.seq (.reg 0 [zf 0 34 2 2, zl 1 35 1 34, zl 2 36 1 3, .o 3 (.call (some 37) model_terms.id [(.tmp 35), (.tmp 36)]), zm 4 33 37, ze 5 38 33 0, ze 6 39 33 1, zm 7 7 38, zm 8 8 39, .g (.keep [2, 3, 5, 7, 8])]) (.seq (.reg 0 [.o 0 (.lt (some 40) (.mkfn (.func model_con_1.id) [] [(.tmp 3)])), zm 1 9 40, .g (.keep [2, 5, 7, 8, 9])]) (.seq (.block 0 (.seq (.reg 0 [zL 0 42 10 2, zL 1 43 10 5, .o 2 (.call (some 44) model_field.id [(.tmp 42), (.tmp 43)]), zm 3 41 44, .g (.keep [2, 5, 7, 8, 9, 41])]) (.cond (.tmp 41) (.seq (.reg 0 [zk 0 4 48, .g (.keep [4])]) (.ret)) (.seq (.seq (.reg 0 [zf 0 46 5 0, zl 1 47 1 46, zf 2 48 2 2, zl 3 49 1 48, zn 4 50 49, .o 5 (.call (some 51) model_counts.id [(.tmp 47), (.tmp 50)]), zq 6 52 51, zm 7 45 52, .g (.keep [2, 5, 7, 8, 9, 45])]) (.cond (.tmp 45) (.skip) (.seq (.reg 0 [zf 0 53 5 1, zl 1 54 1 53, zf 2 55 2 7, zl 3 56 1 55, zn 4 57 56, .o 5 (.call (some 58) model_counts.id [(.tmp 54), (.tmp 57)]), zq 6 59 58, zm 7 45 59, .g (.keep [2, 5, 7, 8, 9, 45])]) (.cond (.tmp 45) (.skip) (.seq (.reg 0 [zf 0 60 5 2, zl 1 61 1 60, zf 2 62 2 8, zl 3 63 1 62, zn 4 64 63, .o 5 (.call (some 65) model_counts.id [(.tmp 61), (.tmp 64)]), zq 6 66 65, zm 7 45 66, .g (.keep [2, 5, 7, 8, 9, 45])]) (.cond (.tmp 45) (.skip) (.reg 0 [zL 0 67 10 2, zL 1 68 10 5, .o 2 (.call (some 69) model_wide.id [(.tmp 67), (.tmp 68)]), zm 3 45 69, .g (.keep [2, 5, 7, 8, 9, 45])]))))))) (.cond (.tmp 45) (.seq (.reg 0 [zk 0 4 47, .g (.keep [4])]) (.ret)) (.seq (.seq (.reg 0 [zm 0 71 7, zm 1 70 71, .g (.keep [2, 5, 8, 9, 70])]) (.cond (.tmp 70) (.skip) (.seq (.reg 0 [zf 0 72 5 4, zl 1 73 1 72, zm 2 74 73, ym 3 74 true 75 9, yf 4 74 true 76 2 5, yl 5 74 true 77 1 76, .gd 6 74 true (some 78) (.callb (some 78) (.tmp 75) [(.tmp 77)]), zr 7 79 74 78 false, zm 8 70 79, .g (.keep [2, 5, 8, 9, 70])]) (.cond (.tmp 70) (.skip) (.seq (.reg 0 [zf 0 80 5 5, zl 1 81 1 80, zm 2 82 81, ym 3 82 true 83 9, yf 4 82 true 84 2 6, yl 5 82 true 85 1 84, .gd 6 82 true (some 86) (.callb (some 86) (.tmp 83) [(.tmp 85)]), zr 7 87 82 86 false, zm 8 70 87, .g (.keep [2, 8, 9, 70])]) (.cond (.tmp 70) (.skip) (.reg 0 [zf 0 88 2 7, zl 1 89 1 88, zm 2 90 9, .o 3 (.callb (some 91) (.func slices_ContainsFunc_Lint_int.id) [(.tmp 89), (.tmp 90)]), zm 4 70 91, .g (.keep [2, 8, 70])]))))))) (.cond (.tmp 70) (.seq (.reg 0 [zk 0 4 44, .g (.keep [4])]) (.ret)) (.seq (.reg 0 [zm 0 93 8, zm 1 92 93, .g (.keep [2, 92])]) (.cond (.tmp 92) (.seq (.reg 0 [zk 0 4 45, .g (.keep [4])]) (.ret)) (.seq (.seq (.reg 0 [zf 0 95 2 3, zl 1 96 1 95, .o 2 (.call (some 97) model_within.id [(.tmp 96), (.const (.int .i64 1000000000))]), zq 3 98 97, zm 4 94 98, .g (.keep [2, 94])]) (.cond (.tmp 94) (.skip) (.seq (.reg 0 [zf 0 99 2 4, zl 1 100 1 99, .o 2 (.call (some 101) model_within.id [(.tmp 100), (.const (.int .i64 1000000000))]), zq 3 102 101, zm 4 94 102, .g (.keep [2, 94])]) (.cond (.tmp 94) (.skip) (.seq (.reg 0 [zf 0 103 2 8, zl 1 104 1 103, .o 2 (.call (some 105) model_great.id [(.tmp 104)]), zm 3 94 105, .g (.keep [2, 94])]) (.cond (.tmp 94) (.skip) (.reg 0 [zf 0 106 2 9, zl 1 107 1 106, .o 2 (.callb (some 108) (.func slices_ContainsFunc_LLint_Lint.id) [(.tmp 107), (.func model_great.id)]), zm 3 94 108, .g (.keep [94])]))))))) (.cond (.tmp 94) (.seq (.reg 0 [zk 0 4 46, .g (.keep [4])]) (.ret)) (.skip)))))))))))) (.seq (.reg 0 [zk 0 4 0, .g (.keep [4])]) (.ret)))))))
def model_con.rs : List Rs := [.sl 4]
theorem model_con.ok : isFn Tryz.prog model_con.id 109 model_con.ann model_con.ir model_con.rs := ⟨Tryz.f41, _, Tryz.func41, rfl, rfl, by kernel_rfl, by kernel_rfl⟩
-- hallmark/model.goal
def model_goal.ann : List (Nat × RA) := [(0, rk [1]), (1, rk [1, 3, 4]), (2, rk [1, 3, 4, 14]), (3, rk [2]), (4, rk [3, 4, 24]), (5, rk [2]), (6, rk [4, 32]), (7, rk [2]), (8, rk [34]), (9, rk [2]), (10, rk [2])]
def model_goal.ir : C := .seq (.reg 1 [.o 0 (.box (some 1) 0 4 (.tmp 0)), zk 1 2 0, .g (.keep [1])]) (.seq (.reg 0 [zf 0 6 1 3, zl 1 7 1 6, zf 2 8 1 0, zl 3 9 1 8, zn 4 10 9, .o 5 (.call (some 11) model_terms.id [(.tmp 7), (.tmp 10)]), zm 6 5 11, ze 7 12 5 0, ze 8 13 5 1, zm 9 3 12, zm 10 4 13, .g (.keep [1, 3, 4])]) (.seq (.block 0 (.seq (.reg 0 [zf 0 15 1 2, zl 1 16 1 15, zq 2 17 16, zm 3 18 17, yf 4 18 true 19 1 3, yl 5 18 true 20 1 19, yn 6 18 true 21 20, yd 7 18 true 22 .gtr 21 0, zr 8 23 18 22 false, zm 9 14 23, .g (.keep [1, 3, 4, 14])]) (.cond (.tmp 14) (.seq (.reg 0 [zk 0 2 48, .g (.keep [2])]) (.ret)) (.seq (.reg 0 [zf 0 25 1 2, zl 1 26 1 25, zf 2 27 1 3, zl 3 28 1 27, zn 4 29 28, .o 5 (.call (some 30) model_counts.id [(.tmp 26), (.tmp 29)]), zq 6 31 30, zm 7 24 31, .g (.keep [3, 4, 24])]) (.cond (.tmp 24) (.seq (.reg 0 [zk 0 2 47, .g (.keep [2])]) (.ret)) (.seq (.reg 0 [zm 0 33 3, zm 1 32 33, .g (.keep [4, 32])]) (.cond (.tmp 32) (.seq (.reg 0 [zk 0 2 44, .g (.keep [2])]) (.ret)) (.seq (.reg 0 [zm 0 35 4, zm 1 34 35, .g (.keep [34])]) (.cond (.tmp 34) (.seq (.reg 0 [zk 0 2 45, .g (.keep [2])]) (.ret)) (.skip)))))))))) (.seq (.reg 0 [zk 0 2 0, .g (.keep [2])]) (.ret))))
def model_goal.rs : List Rs := [.sl 2]
theorem model_goal.ok : isFn Tryz.prog model_goal.id 36 model_goal.ann model_goal.ir model_goal.rs := ⟨Tryz.f42, _, Tryz.func42, rfl, rfl, by kernel_rfl, by kernel_rfl⟩
-- hallmark/hallmarkref4.vars
def hallmarkref4_vars.ann : List (Nat × RA) := [(0, rk [0]), (1, rk [0, 13]), (2, rk [2, 3]), (3, rk [0, 4]), (4, rk [0, 4, 17]), (5, rk [0, 4]), (6, rk [0, 4, 26]), (7, rk [2, 3]), (8, rk [0, 4, 5]), (9, rk [0, 4, 5, 30]), (10, rk [0, 4, 5]), (11, ro [0, 4, 5, 43] [0, 1, 2, 3, 4, 5, 6, 7, 8, 9, 10]), (12, rk [2, 3]), (13, ro [0, 4, 56] [0, 1, 2, 3, 4, 5, 6, 7, 8, 9, 10, 11]), (14, rk [2, 3]), (15, rk [2, 3])]
def hallmarkref4_vars.b1 : C := .seq (.seq (.reg 0 [zm 0 28 5, zm 1 29 4, za 2 30 .lss 28 29, .g (.keep [0, 4, 5, 30])]) (.cond (.tmp 30) (.skip) (.exit 2))) (.seq (.block 3 (.seq (.reg 0 [zm 0 33 0, zm 1 34 5, zx 2 35 3 33 34, zf 3 36 35 0, zl 4 37 1 36, zm 5 38 0, zm 6 39 4, zx 7 40 3 38 39, zf 8 41 40 0, zl 9 42 1 41, za 10 43 .eql 37 42, .g (.keep [0, 4, 5, 43])]) (.cond (.tmp 43) (.seq (.reg 0 [zm 0 44 4, zm 1 2 44, zk 2 3 41, .g (.keep [2, 3])]) (.ret)) (.skip)))) (.reg 0 [zm 0 31 5, zd 1 32 .add 31 1, zm 2 5 32, .g (.keep [0, 4, 5])]))
def hallmarkref4_vars.b0 : C := .seq (.seq (.reg 0 [zm 0 14 4, zm 1 15 0, zn 2 16 15, za 3 17 .lss 14 16, .g (.keep [0, 4, 17])]) (.cond (.tmp 17) (.skip) (.exit 0))) (.seq (.block 1 (.seq (.seq (.reg 0 [zm 0 20 0, zm 1 21 4, zx 2 22 3 20 21, zf 3 23 22 0, zl 4 24 1 23, .o 5 (.call (some 25) hallmarkref4_Name.id [(.tmp 24)]), zq 6 26 25, .g (.keep [0, 4, 26])]) (.cond (.tmp 26) (.seq (.reg 0 [zm 0 27 4, zm 1 2 27, zk 2 3 41, .g (.keep [2, 3])]) (.ret)) (.skip))) (.seq (.seq (.reg 0 [zk 0 5 0, .g (.keep [0, 4, 5])]) (.block 2 (.loop hallmarkref4_vars.b1))) (.seq (.reg 0 [zm 0 45 0, zm 1 46 4, zx 2 47 3 45 46, zf 3 48 47 1, zl 4 49 1 48, zm 5 50 0, zm 6 51 4, zx 7 52 3 50 51, zf 8 53 52 2, zl 9 54 1 53, .o 10 (.call (some 55) hallmarkref4_Bounds.id [(.tmp 49), (.tmp 54)]), zq 11 56 55, .g (.keep [0, 4, 56])]) (.cond (.tmp 56) (.seq (.reg 0 [zm 0 57 4, zm 1 2 57, zk 2 3 42, .g (.keep [2, 3])]) (.ret)) (.skip)))))) (.reg 0 [zm 0 18 4, zd 1 19 .add 18 1, zm 2 4 19, .g (.keep [0, 4])]))
def hallmarkref4_vars.ir : C := .seq (.reg 0 [zk 0 2 0, zk 1 3 0, .g (.keep [0])]) (.seq (.seq (.reg 0 [zm 0 6 0, zn 1 7 6, zd 2 8 .lss 7 1, zm 3 9 8, ym 4 9 false 10 0, yn 5 9 false 11 10, yd 6 9 false 12 .gtr 11 32, zp 7 13 9 true 12, .g (.keep [0, 13])]) (.cond (.tmp 13) (.seq (.reg 0 [zk 0 2 0, zk 1 3 40, .g (.keep [2, 3])]) (.ret)) (.skip))) (.seq (.seq (.reg 0 [zk 0 4 0, .g (.keep [0, 4])]) (.block 0 (.loop hallmarkref4_vars.b0))) (.seq (.reg 0 [zk 0 2 0, zk 1 3 0, .g (.keep [2, 3])]) (.ret))))
def hallmarkref4_vars.rs : List Rs := [.sl 2, .sl 3]
theorem hallmarkref4_vars.ok : isFn Tryz.prog hallmarkref4_vars.id 58 hallmarkref4_vars.ann hallmarkref4_vars.ir hallmarkref4_vars.rs := ⟨Tryz.f43, _, Tryz.func43, rfl, rfl, by kernel_rfl, by kernel_rfl⟩
-- hallmark/hallmarkref4.Con
def hallmarkref4_Con.ann : List (Nat × RA) := [(0, rk [1, 2]), (1, rk [1, 2, 37]), (2, rk [4]), (3, rk [1, 2, 39]), (4, rk [4]), (5, rk [1, 2, 5]), (6, rk [1, 2, 86]), (7, rk [4]), (8, rk [1, 2, 6]), (9, rk [2, 6, 98]), (10, rk [4]), (11, rk [2, 6, 100]), (12, rk [4]), (13, rk [2, 111]), (14, rk [4]), (15, rk [2, 7]), (16, rk [2, 7, 116]), (17, rk [2, 7]), (18, rk [2, 7, 8]), (19, rk [2, 7, 8, 126]), (20, rk [2, 7, 8]), (21, rk [2, 7, 8, 138]), (22, rk [4]), (23, rk [2, 9]), (24, rk [2, 9, 143]), (25, rk [2, 9]), (26, rk [2, 9, 152]), (27, rk [4]), (28, rk [4])]
def hallmarkref4_Con.b2 : C := .seq (.seq (.reg 0 [zm 0 139 9, zf 1 140 2 8, zl 2 141 1 140, zn 3 142 141, za 4 143 .lss 139 142, .g (.keep [2, 9, 143])]) (.cond (.tmp 143) (.skip) (.exit 4))) (.seq (.block 5 (.seq (.reg 0 [zf 0 146 2 8, zl 1 147 1 146, zm 2 148 9, zx 3 149 1 147 148, zl 4 150 1 149, .o 5 (.call (some 151) hallmarkref4_Number.id [(.tmp 150)]), zq 6 152 151, .g (.keep [2, 9, 152])]) (.cond (.tmp 152) (.seq (.reg 0 [zk 0 4 46, .g (.keep [4])]) (.ret)) (.skip)))) (.reg 0 [zm 0 144 9, zd 1 145 .add 144 1, zm 2 9 145, .g (.keep [2, 9])]))
def hallmarkref4_Con.b1 : C := .seq (.seq (.reg 0 [zm 0 119 8, zf 1 120 2 9, zl 2 121 1 120, zm 3 122 7, zx 4 123 1 121 122, zl 5 124 1 123, zn 6 125 124, za 7 126 .lss 119 125, .g (.keep [2, 7, 8, 126])]) (.cond (.tmp 126) (.skip) (.exit 2))) (.seq (.block 3 (.seq (.reg 0 [zf 0 129 2 9, zl 1 130 1 129, zm 2 131 7, zx 3 132 1 130 131, zl 4 133 1 132, zm 5 134 8, zx 6 135 1 133 134, zl 7 136 1 135, .o 8 (.call (some 137) hallmarkref4_Number.id [(.tmp 136)]), zq 9 138 137, .g (.keep [2, 7, 8, 138])]) (.cond (.tmp 138) (.seq (.reg 0 [zk 0 4 46, .g (.keep [4])]) (.ret)) (.skip)))) (.reg 0 [zm 0 127 8, zd 1 128 .add 127 1, zm 2 8 128, .g (.keep [2, 7, 8])]))
def hallmarkref4_Con.b0 : C := .seq (.seq (.reg 0 [zm 0 112 7, zf 1 113 2 9, zl 2 114 1 113, zn 3 115 114, za 4 116 .lss 112 115, .g (.keep [2, 7, 116])]) (.cond (.tmp 116) (.skip) (.exit 0))) (.seq (.block 1 (.seq (.reg 0 [zk 0 8 0, .g (.keep [2, 7, 8])]) (.block 2 (.loop hallmarkref4_Con.b1)))) (.reg 0 [zm 0 117 7, zd 1 118 .add 117 1, zm 2 7 118, .g (.keep [2, 7])]))
def hallmarkref4_Con.ir : C := .seq (.reg 1 [.o 0 (.box (some 2) 0 10 (.tmp 0)), zk 1 4 0, .g (.keep [1, 2])]) (.seq (.seq (.reg 0 [zf 0 10 2 0, zl 1 11 1 10, zd 2 12 .lss 11 1, zm 3 13 12, yf 4 13 false 14 2 0, yl 5 13 false 15 1 14, yd 6 13 false 16 .gtr 15 9, zp 7 17 13 true 16, zm 8 18 17, yf 9 18 false 19 2 0, yl 10 18 false 20 1 19, yd 11 18 false 21 .eql 20 1, ym 12 18 false 22 21, yf 13 22 false 23 2 0, yl 14 22 false 24 1 23, yd 15 22 false 25 .eql 24 9, yp 16 18 false 26 22 true 25, ym 17 18 false 27 26, yf 18 27 true 28 2 1, yl 19 27 true 29 1 28, yd 20 27 true 30 .lss 29 1, ym 21 27 true 31 30, yf 22 31 false 32 2 1, yl 23 31 false 33 1 32, yd 24 31 false 34 .gtr 33 3, yp 25 27 true 35 31 true 34, yr 26 18 false 36 27 35 false, zp 27 37 18 true 36, .g (.keep [1, 2, 37])]) (.cond (.tmp 37) (.seq (.reg 0 [zk 0 4 43, .g (.keep [4])]) (.ret)) (.skip))) (.seq (.seq (.reg 0 [zL 0 38 10 2, .o 1 (.call (some 39) hallmarkref4_foreign.id [(.tmp 38)]), .g (.keep [1, 2, 39])]) (.cond (.tmp 39) (.seq (.reg 0 [zk 0 4 48, .g (.keep [4])]) (.ret)) (.skip))) (.seq (.reg 0 [zf 0 40 2 0, zl 1 41 1 40, zd 2 42 .eql 41 1, zm 3 43 42, yf 4 43 false 44 2 0, yl 5 43 false 45 1 44, yd 6 43 false 46 .eql 45 7, zp 7 47 43 true 46, zm 8 5 47, .g (.keep [1, 2, 5])]) (.seq (.seq (.reg 0 [zm 0 48 5, zm 1 49 48, yf 2 49 true 50 2 2, yl 3 49 true 51 1 50, yn 4 49 true 52 51, .gd 5 49 true (some 53) (.call (some 53) hallmarkref4_many.id [(.tmp 52)]), zr 6 54 49 53 false, zm 7 55 54, yf 8 55 false 56 2 0, yl 9 55 false 57 1 56, .gd 10 55 false (some 58) (.call (some 58) hallmarkref4_lists.id [(.tmp 57)]), ym 11 55 false 59 58, yf 12 59 true 60 2 7, yl 13 59 true 61 1 60, yn 14 59 true 62 61, .gd 15 59 true (some 63) (.call (some 63) hallmarkref4_many.id [(.tmp 62)]), yr 16 55 false 64 59 63 false, zp 17 65 55 true 64, zm 18 66 65, yf 19 66 false 67 2 0, yl 20 66 false 68 1 67, yd 21 66 false 69 .eql 68 4, ym 22 66 false 70 69, yf 23 70 true 71 2 8, yl 24 70 true 72 1 71, yn 25 70 true 73 72, .gd 26 70 true (some 74) (.call (some 74) hallmarkref4_many.id [(.tmp 73)]), yr 27 66 false 75 70 74 false, zp 28 76 66 true 75, zm 29 77 76, yf 30 77 false 78 2 0, yl 31 77 false 79 1 78, yd 32 77 false 80 .eql 79 8, ym 33 77 false 81 80, yL 34 81 true 82 10 2, .gd 35 81 true (some 83) (.call (some 83) hallmarkref4_rows.id [(.tmp 82)]), yq 36 81 true 84 83, yr 37 77 false 85 81 84 false, zp 38 86 77 true 85, .g (.keep [1, 2, 86])]) (.cond (.tmp 86) (.seq (.reg 0 [zk 0 4 47, .g (.keep [4])]) (.ret)) (.skip))) (.seq (.reg 0 [zf 0 87 2 2, zl 1 88 1 87, zm 2 89 1, .o 3 (.call (some 90) hallmarkref4_terms.id [(.tmp 88), (.tmp 89)]), zm 4 6 90, .g (.keep [1, 2, 6])]) (.seq (.seq (.reg 0 [zL 0 91 10 2, zm 1 92 1, .o 2 (.call (some 93) hallmarkref4_places.id [(.tmp 91), (.tmp 92)]), zq 3 94 93, zm 4 95 94, ym 5 95 false 96 6, yd 6 95 false 97 .eql 96 44, zp 7 98 95 true 97, .g (.keep [2, 6, 98])]) (.cond (.tmp 98) (.seq (.reg 0 [zk 0 4 44, .g (.keep [4])]) (.ret)) (.skip))) (.seq (.seq (.reg 0 [zm 0 99 6, zd 1 100 .neq 99 0, .g (.keep [2, 6, 100])]) (.cond (.tmp 100) (.seq (.reg 0 [zm 0 101 6, zm 1 4 101, .g (.keep [4])]) (.ret)) (.skip))) (.seq (.seq (.reg 0 [zf 0 102 2 3, zl 1 103 1 102, .o 2 (.call (some 104) hallmarkref4_Number.id [(.tmp 103)]), zq 3 105 104, zm 4 106 105, yf 5 106 false 107 2 4, yl 6 106 false 108 1 107, .gd 7 106 false (some 109) (.call (some 109) hallmarkref4_Number.id [(.tmp 108)]), yq 8 106 false 110 109, zp 9 111 106 true 110, .g (.keep [2, 111])]) (.cond (.tmp 111) (.seq (.reg 0 [zk 0 4 46, .g (.keep [4])]) (.ret)) (.skip))) (.seq (.seq (.reg 0 [zk 0 7 0, .g (.keep [2, 7])]) (.block 0 (.loop hallmarkref4_Con.b0))) (.seq (.seq (.reg 0 [zk 0 9 0, .g (.keep [2, 9])]) (.block 4 (.loop hallmarkref4_Con.b2))) (.seq (.reg 0 [zk 0 4 0, .g (.keep [4])]) (.ret))))))))))))
def hallmarkref4_Con.rs : List Rs := [.sl 4]
theorem hallmarkref4_Con.ok : isFn Tryz.prog hallmarkref4_Con.id 153 hallmarkref4_Con.ann hallmarkref4_Con.ir hallmarkref4_Con.rs := ⟨Tryz.f44, _, Tryz.func44, rfl, rfl, by kernel_rfl, by kernel_rfl⟩
-- hallmark/hallmarkref4.many
def hallmarkref4_many.ann : List (Nat × RA) := [(0, rk [0]), (1, rk [2])]
def hallmarkref4_many.ir : C := .seq (.reg 0 [zb 0 2 false, .g (.keep [0])]) (.seq (.reg 0 [zm 0 3 0, zd 1 4 .lss 3 1, zm 2 5 4, ym 3 5 false 6 0, yd 4 5 false 7 .gtr 6 64, zp 5 8 5 true 7, zm 6 2 8, .g (.keep [2])]) (.ret))
def hallmarkref4_many.rs : List Rs := [.sl 2]
theorem hallmarkref4_many.ok : isFn Tryz.prog hallmarkref4_many.id 9 hallmarkref4_many.ann hallmarkref4_many.ir hallmarkref4_many.rs := ⟨Tryz.f45, _, Tryz.func45, rfl, rfl, by kernel_rfl, by kernel_rfl⟩
-- hallmark/hallmarkref4.terms
def hallmarkref4_terms.ann : List (Nat × RA) := [(0, rk [0, 1]), (1, rk [0, 1, 5]), (2, rk [0, 1, 5, 10]), (3, rk [0, 1, 5]), (4, rk [0, 1, 5, 27]), (5, rk [4]), (6, rk [0, 6]), (7, rk [0, 6, 31]), (8, rk [0, 6]), (9, rk [0, 6, 40]), (10, rk [4]), (11, rk [4])]
def hallmarkref4_terms.b1 : C := .seq (.seq (.reg 0 [zm 0 28 6, zm 1 29 0, zn 2 30 29, za 3 31 .lss 28 30, .g (.keep [0, 6, 31])]) (.cond (.tmp 31) (.skip) (.exit 2))) (.seq (.block 3 (.seq (.reg 0 [zm 0 34 0, zm 1 35 6, zx 2 36 2 34 35, zf 3 37 36 0, zl 4 38 1 37, .o 5 (.call (some 39) hallmarkref4_Coef.id [(.tmp 38)]), zq 6 40 39, .g (.keep [0, 6, 40])]) (.cond (.tmp 40) (.seq (.reg 0 [zk 0 4 45, .g (.keep [4])]) (.ret)) (.skip)))) (.reg 0 [zm 0 32 6, zd 1 33 .add 32 1, zm 2 6 33, .g (.keep [0, 6])]))
def hallmarkref4_terms.b0 : C := .seq (.seq (.reg 0 [zm 0 7 5, zm 1 8 0, zn 2 9 8, za 3 10 .lss 7 9, .g (.keep [0, 1, 5, 10])]) (.cond (.tmp 10) (.skip) (.exit 0))) (.seq (.block 1 (.seq (.reg 0 [zm 0 13 0, zm 1 14 5, zx 2 15 2 13 14, zf 3 16 15 1, zl 4 17 1 16, zd 5 18 .lss 17 0, zm 6 19 18, ym 7 19 false 20 0, ym 8 19 false 21 5, yx 9 19 false 22 2 20 21, yf 10 19 false 23 22 1, yl 11 19 false 24 1 23, ym 12 19 false 25 1, ya 13 19 false 26 .geq 24 25, zp 14 27 19 true 26, .g (.keep [0, 1, 5, 27])]) (.cond (.tmp 27) (.seq (.reg 0 [zk 0 4 44, .g (.keep [4])]) (.ret)) (.skip)))) (.reg 0 [zm 0 11 5, zd 1 12 .add 11 1, zm 2 5 12, .g (.keep [0, 1, 5])]))
def hallmarkref4_terms.ir : C := .seq (.reg 0 [zk 0 4 0, .g (.keep [0, 1])]) (.seq (.seq (.reg 0 [zk 0 5 0, .g (.keep [0, 1, 5])]) (.block 0 (.loop hallmarkref4_terms.b0))) (.seq (.seq (.reg 0 [zk 0 6 0, .g (.keep [0, 6])]) (.block 2 (.loop hallmarkref4_terms.b1))) (.seq (.reg 0 [zk 0 4 0, .g (.keep [4])]) (.ret))))
def hallmarkref4_terms.rs : List Rs := [.sl 4]
theorem hallmarkref4_terms.ok : isFn Tryz.prog hallmarkref4_terms.id 41 hallmarkref4_terms.ann hallmarkref4_terms.ir hallmarkref4_terms.rs := ⟨Tryz.f46, _, Tryz.func46, rfl, rfl, by kernel_rfl, by kernel_rfl⟩
-- hallmark/model.isName
def model_isName.ann : List (Nat × RA) := [(0, rk [0]), (1, rk [0, 7]), (2, rk [0, 7, 8, 9]), (3, rk [0, 3, 4, 7]), (4, rk [0, 3, 4, 5, 7]), (5, rk [0, 7, 43]), (6, rk [2]), (7, rk [2])]
def model_isName.b0 : C := .seq (.reg 0 [.o 0 (.nxt (some 8) (.tmp 7)), ze 1 9 8 0, .g (.keep [0, 7, 8, 9])]) (.seq (.cond (.tmp 9) (.skip) (.exit 0)) (.block 1 (.seq (.reg 0 [ze 0 10 8 1, ze 1 11 8 2, zm 2 3 10, zm 3 4 11, .g (.keep [0, 3, 4, 7])]) (.seq (.reg 0 [zm 0 12 4, .o 1 (.lt (some 13) (.bin .geq (.tmp 12) (.const (.int .i32 97)))), zm 2 14 13, ym 3 14 true 15 4, .gd 4 14 true (some 16) (.lt (some 16) (.bin .leq (.tmp 15) (.const (.int .i32 122)))), zr 5 17 14 16 false, zm 6 18 17, ym 7 18 false 19 4, .gd 8 18 false (some 20) (.lt (some 20) (.bin .geq (.tmp 19) (.const (.int .i32 65)))), ym 9 18 false 21 20, ym 10 21 true 22 4, .gd 11 21 true (some 23) (.lt (some 23) (.bin .leq (.tmp 22) (.const (.int .i32 90)))), yr 12 18 false 24 21 23 false, zp 13 25 18 true 24, zm 14 26 25, ym 15 26 false 27 4, .gd 16 26 false (some 28) (.lt (some 28) (.bin .eql (.tmp 27) (.const (.int .i32 95)))), zp 17 29 26 true 28, zm 18 5 29, .g (.keep [0, 3, 4, 5, 7])]) (.seq (.reg 0 [zm 0 30 5, zq 1 31 30, zm 2 32 31, ym 3 32 true 33 3, yd 4 32 true 34 .eql 33 0, ym 5 32 true 35 34, ym 6 35 false 36 4, .gd 7 35 false (some 37) (.lt (some 37) (.bin .lss (.tmp 36) (.const (.int .i32 48)))), yp 8 32 true 38 35 true 37, ym 9 32 true 39 38, ym 10 39 false 40 4, .gd 11 39 false (some 41) (.lt (some 41) (.bin .gtr (.tmp 40) (.const (.int .i32 57)))), yp 12 32 true 42 39 true 41, zr 13 43 32 42 false, .g (.keep [0, 7, 43])]) (.cond (.tmp 43) (.seq (.reg 0 [zb 0 2 false, .g (.keep [2])]) (.ret)) (.skip)))))))
def model_isName.ir : C := .seq (.reg 0 [zb 0 2 false, .g (.keep [0])]) (.seq (.seq (.reg 1 [zm 0 6 0, .o 1 (.rng (some 7) 0 (.tmp 6)), .g (.keep [0, 7])]) (.block 0 (.loop model_isName.b0))) (.seq (.reg 0 [zm 0 44 0, .o 1 (.lt (some 45) (.lenStr (.tmp 44))), zd 2 46 .geq 45 1, zm 3 47 46, ym 4 47 true 48 0, .gd 5 47 true (some 49) (.lt (some 49) (.lenStr (.tmp 48))), yd 6 47 true 50 .leq 49 16, zr 7 51 47 50 false, zm 8 2 51, .g (.keep [2])]) (.ret)))
def model_isName.rs : List Rs := [.sl 2]
theorem model_isName.ok : isFn Tryz.prog model_isName.id 52 model_isName.ann model_isName.ir model_isName.rs := ⟨Tryz.f47, _, Tryz.func47, rfl, rfl, by kernel_rfl, by kernel_rfl⟩
-- slices.ContainsFunc[[]hallmark/api.Var,hallmark/api.Var]
def slices_ContainsFunc_Lapi_Var_api_Var.ann : List (Nat × RA) := [(0, rk [0, 1]), (1, rk [4])]
def slices_ContainsFunc_Lapi_Var_api_Var.ir : C := .seq (.reg 0 [zb 0 4 false, .g (.keep [0, 1])]) (.seq (.reg 0 [zm 0 5 0, zm 1 6 1, .o 2 (.call (some 7) slices_IndexFunc_Lapi_Var_api_Var.id [(.tmp 5), (.tmp 6)]), zd 3 8 .geq 7 0, zm 4 4 8, .g (.keep [4])]) (.ret))
def slices_ContainsFunc_Lapi_Var_api_Var.rs : List Rs := [.sl 4]
theorem slices_ContainsFunc_Lapi_Var_api_Var.ok : isFn Tryz.prog slices_ContainsFunc_Lapi_Var_api_Var.id 9 slices_ContainsFunc_Lapi_Var_api_Var.ann slices_ContainsFunc_Lapi_Var_api_Var.ir slices_ContainsFunc_Lapi_Var_api_Var.rs := ⟨Tryz.f48, _, Tryz.func48, rfl, rfl, by kernel_rfl, by kernel_rfl⟩
-- hallmark/model.variable$1
def model_variable_1.ann : List (Nat × RA) := [(0, rk [1, 2]), (1, rk [3])]
def model_variable_1.ir : C := .seq (.reg 1 [.o 0 (.box (some 2) 0 3 (.tmp 0)), zb 1 3 false, .g (.keep [1, 2])]) (.seq (.reg 0 [zf 0 4 2 0, zl 1 5 1 4, zf 2 6 1 0, zl 3 7 1 6, za 4 8 .eql 5 7, zm 5 3 8, .g (.keep [3])]) (.ret))
def model_variable_1.rs : List Rs := [.sl 3]
theorem model_variable_1.ok : isFn Tryz.prog model_variable_1.id 9 model_variable_1.ann model_variable_1.ir model_variable_1.rs := ⟨Tryz.f49, _, Tryz.func49, rfl, rfl, by kernel_rfl, by kernel_rfl⟩
-- hallmark/model.within
def model_within.ann : List (Nat × RA) := [(0, rk [0, 1]), (1, rk [4])]
def model_within.ir : C := .seq (.reg 0 [zb 0 4 false, .g (.keep [0, 1])]) (.seq (.reg 0 [zm 0 5 0, zm 1 6 1, .o 2 (.lt (some 7) (.un .neg (.tmp 6))), za 3 8 .geq 5 7, zm 4 9 8, ym 5 9 true 10 0, ym 6 9 true 11 1, ya 7 9 true 12 .leq 10 11, zr 8 13 9 12 false, zm 9 4 13, .g (.keep [4])]) (.ret))
def model_within.rs : List Rs := [.sl 4]
theorem model_within.ok : isFn Tryz.prog model_within.id 14 model_within.ann model_within.ir model_within.rs := ⟨Tryz.f50, _, Tryz.func50, rfl, rfl, by kernel_rfl, by kernel_rfl⟩
-- hallmark/model.kinds
def model_kinds.ann : List (Nat × RA) := [(0, rk []), (1, rk [0])]
def model_kinds.ir : C := .seq (.reg 0 [.o 0 (.lt (some 0) (.mov (.const (.map none)))), .g (.keep [])]) (.seq (.reg 1 [.o 0 (.mkm (some 1) 0), .o 1 (.lt (some 2) (.build [.a (.bool false), .a (.bool false), .a (.bool false), .a (.bool false), .a (.bool false), .a (.bool false), .a (.bool false), .a (.bool false), .a (.bool false), .a (.nilFunc)] [(0, 1, (.const (.bool true))), (6, 1, (.const (.bool true))), (7, 1, (.const (.bool true))), (9, 1, (.func model_lin.id))])), .o 2 (.mup [] .i64 (.tmp 1) (.const (.int .i64 1)) (.tmp 2)), .o 3 (.lt (some 3) (.build [.a (.bool false), .a (.bool false), .a (.bool false), .a (.bool false), .a (.bool false), .a (.bool false), .a (.bool false), .a (.bool false), .a (.bool false), .a (.nilFunc)] [(4, 1, (.const (.bool true))), (5, 1, (.const (.bool true))), (6, 1, (.const (.bool true))), (9, 1, (.func model_kinds_1.id))])), .o 4 (.mup [] .i64 (.tmp 1) (.const (.int .i64 2)) (.tmp 3)), .o 5 (.lt (some 4) (.build [.a (.bool false), .a (.bool false), .a (.bool false), .a (.bool false), .a (.bool false), .a (.bool false), .a (.bool false), .a (.bool false), .a (.bool false), .a (.nilFunc)] [(1, 1, (.const (.bool true))), (9, 1, (.func model_allDiff.id))])), .o 6 (.mup [] .i64 (.tmp 1) (.const (.int .i64 3)) (.tmp 4)), .o 7 (.lt (some 5) (.build [.a (.bool false), .a (.bool false), .a (.bool false), .a (.bool false), .a (.bool false), .a (.bool false), .a (.bool false), .a (.bool false), .a (.bool false), .a (.nilFunc)] [(4, 1, (.const (.bool true))), (5, 1, (.const (.bool true))), (2, 1, (.const (.bool true))), (9, 1, (.func model_element.id))])), .o 8 (.mup [] .i64 (.tmp 1) (.const (.int .i64 4)) (.tmp 5)), .o 9 (.lt (some 6) (.build [.a (.bool false), .a (.bool false), .a (.bool false), .a (.bool false), .a (.bool false), .a (.bool false), .a (.bool false), .a (.bool false), .a (.bool false), .a (.nilFunc)] [(5, 1, (.const (.bool true))), (1, 1, (.const (.bool true))), (9, 1, (.func model_kinds_2.id))])), .o 10 (.mup [] .i64 (.tmp 1) (.const (.int .i64 5)) (.tmp 6)), .o 11 (.lt (some 7) (.build [.a (.bool false), .a (.bool false), .a (.bool false), .a (.bool false), .a (.bool false), .a (.bool false), .a (.bool false), .a (.bool false), .a (.bool false), .a (.nilFunc)] [(5, 1, (.const (.bool true))), (1, 1, (.const (.bool true))), (9, 1, (.func model_kinds_3.id))])), .o 12 (.mup [] .i64 (.tmp 1) (.const (.int .i64 6)) (.tmp 7)), .o 13 (.lt (some 8) (.build [.a (.bool false), .a (.bool false), .a (.bool false), .a (.bool false), .a (.bool false), .a (.bool false), .a (.bool false), .a (.bool false), .a (.bool false), .a (.nilFunc)] [(4, 1, (.const (.bool true))), (0, 1, (.const (.bool true))), (6, 1, (.const (.bool true))), (9, 1, (.func model_reif.id))])), .o 14 (.mup [] .i64 (.tmp 1) (.const (.int .i64 7)) (.tmp 8)), .o 15 (.lt (some 9) (.build [.a (.bool false), .a (.bool false), .a (.bool false), .a (.bool false), .a (.bool false), .a (.bool false), .a (.bool false), .a (.bool false), .a (.bool false), .a (.nilFunc)] [(1, 1, (.const (.bool true))), (3, 1, (.const (.bool true))), (9, 1, (.func model_table.id))])), .o 16 (.mup [] .i64 (.tmp 1) (.const (.int .i64 8)) (.tmp 9)), .o 17 (.lt (some 10) (.build [.a (.bool false), .a (.bool false), .a (.bool false), .a (.bool false), .a (.bool false), .a (.bool false), .a (.bool false), .a (.bool false), .a (.bool false), .a (.nilFunc)] [(1, 1, (.const (.bool true))), (6, 1, (.const (.bool true))), (7, 1, (.const (.bool true))), (8, 1, (.const (.bool true))), (9, 1, (.func model_count.id))])), .o 18 (.mup [] .i64 (.tmp 1) (.const (.int .i64 9)) (.tmp 10)), zm 19 11 1, zm 20 0 11, .g (.keep [0])]) (.ret))
def model_kinds.rs : List Rs := [.sl 0]
theorem model_kinds.ok : isFn Tryz.prog model_kinds.id 12 model_kinds.ann model_kinds.ir model_kinds.rs := ⟨Tryz.f51, _, Tryz.func51, rfl, rfl, by kernel_rfl, by kernel_rfl⟩
-- hallmark/model.terms
def model_terms.ann : List (Nat × RA) := [(0, rk [0, 1, 4, 5]), (1, rk [1, 4, 5, 8, 9, 10]), (2, rk [1, 4, 5, 8, 9, 10, 11]), (3, rk [1, 4, 5, 7, 8, 9, 10]), (4, rk [1, 4, 5, 7, 8, 9, 10]), (5, rk [1, 4, 5, 8, 9, 10]), (6, rk [1, 4, 5, 8, 9, 10]), (7, rk [4, 5])]
def model_terms.b0 : C := .seq (.reg 0 [za 0 11 .lss 10 9, .g (.keep [1, 4, 5, 8, 9, 10, 11])]) (.seq (.cond (.tmp 11) (.skip) (.exit 0)) (.seq (.block 1 (.seq (.reg 1 [zx 0 12 2 8 10, zL 1 13 2 12, .o 2 (.alloc (some 7) 0 2 [.a (.int .i64 0), .a (.int .i64 0)]), .o 3 (.store [] 2 (.tmp 7) (.tmp 13)), .g (.keep [1, 4, 5, 7, 8, 9, 10])]) (.seq (.reg 0 [zm 0 14 4, zm 1 15 14, yf 2 15 false 16 7 1, yl 3 15 false 17 1 16, yd 4 15 false 18 .lss 17 0, zp 5 19 15 true 18, zm 6 20 19, yf 7 20 false 21 7 1, yl 8 20 false 22 1 21, ym 9 20 false 23 1, ya 10 20 false 24 .geq 22 23, zp 11 25 20 true 24, zm 12 4 25, .g (.keep [1, 4, 5, 7, 8, 9, 10])]) (.reg 0 [zm 0 26 5, zm 1 27 26, yf 2 27 false 28 7 0, yl 3 27 false 29 1 28, yd 4 27 false 30 .eql 29 0, zp 5 31 27 true 30, zm 6 32 31, yf 7 32 false 33 7 0, yl 8 32 false 34 1 33, .gd 9 32 false (some 35) (.call (some 35) model_within.id [(.tmp 34), (.const (.int .i64 1000000))]), yq 10 32 false 36 35, zp 11 37 32 true 36, zm 12 5 37, .g (.keep [1, 4, 5, 8, 9, 10])])))) (.reg 0 [zd 0 38 .add 10 1, zm 1 10 38, .g (.keep [1, 4, 5, 8, 9, 10])])))
def model_terms.ir : C := .seq (.reg 0 [zb 0 4 false, zb 1 5 false, .g (.keep [0, 1, 4, 5])]) (.seq (.seq (.reg 0 [zm 0 8 0, zn 1 9 8, zk 2 10 0, .g (.keep [1, 4, 5, 8, 9, 10])]) (.block 0 (.loop model_terms.b0))) (.seq (.reg 0 [zm 0 39 4, zm 1 40 5, zm 2 4 39, zm 3 5 40, .g (.keep [4, 5])]) (.ret)))
def model_terms.rs : List Rs := [.sl 4, .sl 5]
theorem model_terms.ok : isFn Tryz.prog model_terms.id 41 model_terms.ann model_terms.ir model_terms.rs := ⟨Tryz.f52, _, Tryz.func52, rfl, rfl, by kernel_rfl, by kernel_rfl⟩
-- hallmark/model.con$1
def model_con_1.ann : List (Nat × RA) := [(0, rk [0, 1]), (1, rk [3])]
def model_con_1.ir : C := .seq (.reg 0 [zb 0 3 false, .g (.keep [0, 1])]) (.seq (.reg 0 [zm 0 4 0, zd 1 5 .lss 4 0, zm 2 6 5, ym 3 6 false 7 0, yl 4 6 false 8 1 1, ya 5 6 false 9 .geq 7 8, zp 6 10 6 true 9, zm 7 3 10, .g (.keep [3])]) (.ret))
def model_con_1.rs : List Rs := [.sl 3]
theorem model_con_1.ok : isFn Tryz.prog model_con_1.id 11 model_con_1.ann model_con_1.ir model_con_1.rs := ⟨Tryz.f53, _, Tryz.func53, rfl, rfl, by kernel_rfl, by kernel_rfl⟩
-- hallmark/model.field
def model_field.ann : List (Nat × RA) := [(0, rk [2, 3]), (1, rk [2, 3, 5]), (2, rk [2, 3, 5, 18]), (3, rk [2, 3, 5]), (4, rk [2, 3, 5, 21]), (5, rk [2, 3, 5]), (6, rk [2, 3, 5, 24]), (7, rk [2, 3, 5]), (8, rk [2, 3, 5, 27]), (9, rk [2, 3, 5]), (10, rk [2, 3, 5, 30]), (11, rk [2, 3, 5]), (12, rk [4])]
def model_field.ir : C := .seq (.reg 2 [.o 0 (.box (some 2) 0 10 (.tmp 0)), .o 1 (.box (some 3) 1 10 (.tmp 1)), zb 2 4 false, .g (.keep [2, 3])]) (.seq (.reg 1 [zf 0 6 2 1, zl 1 7 1 6, zf 2 8 2 3, zl 3 9 1 8, zf 4 10 2 4, zl 5 11 1 10, zf 6 12 2 5, zl 7 13 1 12, zf 8 14 2 6, zl 9 15 1 14, .o 10 (.lt (some 16) (.build [.a (.int .i64 0), .a (.int .i64 0), .a (.int .i64 0), .a (.int .i64 0), .a (.int .i64 0)] [(0, 1, (.tmp 7)), (1, 1, (.tmp 9)), (2, 1, (.tmp 11)), (3, 1, (.tmp 13)), (4, 1, (.tmp 15))])), .o 11 (.alloc (some 5) 0 5 [.a (.int .i64 0), .a (.int .i64 0), .a (.int .i64 0), .a (.int .i64 0), .a (.int .i64 0)]), .o 12 (.store [] 5 (.tmp 5) (.tmp 16)), .g (.keep [2, 3, 5])]) (.seq (.seq (.reg 0 [zf 0 17 3 7, zl 1 18 1 17, .g (.keep [2, 3, 5, 18])]) (.cond (.tmp 18) (.reg 0 [zf 0 19 5 0, .o 1 (.store [] 1 (.tmp 19) (.const (.int .i64 0))), .g (.keep [2, 3, 5])]) (.skip))) (.seq (.seq (.reg 0 [zf 0 20 3 8, zl 1 21 1 20, .g (.keep [2, 3, 5, 21])]) (.cond (.tmp 21) (.reg 0 [zf 0 22 5 2, .o 1 (.store [] 1 (.tmp 22) (.const (.int .i64 0))), .g (.keep [2, 3, 5])]) (.skip))) (.seq (.seq (.reg 0 [zf 0 23 3 6, zl 1 24 1 23, .g (.keep [2, 3, 5, 24])]) (.cond (.tmp 24) (.reg 0 [zf 0 25 5 1, .o 1 (.store [] 1 (.tmp 25) (.const (.int .i64 0))), .g (.keep [2, 3, 5])]) (.skip))) (.seq (.seq (.reg 0 [zf 0 26 3 4, zl 1 27 1 26, .g (.keep [2, 3, 5, 27])]) (.cond (.tmp 27) (.reg 0 [zf 0 28 5 3, .o 1 (.store [] 1 (.tmp 28) (.const (.int .i64 0))), .g (.keep [2, 3, 5])]) (.skip))) (.seq (.seq (.reg 0 [zf 0 29 3 5, zl 1 30 1 29, .g (.keep [2, 3, 5, 30])]) (.cond (.tmp 30) (.reg 0 [zf 0 31 5 4, .o 1 (.store [] 1 (.tmp 31) (.const (.int .i64 0))), .g (.keep [2, 3, 5])]) (.skip))) (.seq (.reg 0 [zL 0 32 5 5, .o 1 (.lt (some 33) (.build [.a (.int .i64 0), .a (.int .i64 0), .a (.int .i64 0), .a (.int .i64 0), .a (.int .i64 0)] [])), .o 2 (.lt (some 34) (.eqD true [(0, 0), (1, 0), (2, 0), (3, 0), (4, 0)] (.tmp 32) (.tmp 33))), zm 3 35 34, yf 4 35 false 36 3 0, yl 5 35 false 37 1 36, yq 6 35 false 38 37, ym 7 35 false 39 38, yf 8 39 true 40 2 2, yl 9 39 true 41 1 40, yn 10 39 true 42 41, yd 11 39 true 43 .gtr 42 0, yr 12 35 false 44 39 43 false, zp 13 45 35 true 44, zm 14 46 45, yf 15 46 false 47 3 1, yl 16 46 false 48 1 47, yq 17 46 false 49 48, ym 18 46 false 50 49, yf 19 50 true 51 2 7, yl 20 50 true 52 1 51, yn 21 50 true 53 52, yd 22 50 true 54 .gtr 53 0, yr 23 46 false 55 50 54 false, zp 24 56 46 true 55, zm 25 57 56, yf 26 57 false 58 3 2, yl 27 57 false 59 1 58, yq 28 57 false 60 59, ym 29 57 false 61 60, yf 30 61 true 62 2 8, yl 31 61 true 63 1 62, yn 32 61 true 64 63, yd 33 61 true 65 .gtr 64 0, yr 34 57 false 66 61 65 false, zp 35 67 57 true 66, zm 36 68 67, yf 37 68 false 69 3 3, yl 38 68 false 70 1 69, yq 39 68 false 71 70, ym 40 68 false 72 71, yf 41 72 true 73 2 9, yl 42 72 true 74 1 73, yn 43 72 true 75 74, yd 44 72 true 76 .gtr 75 0, yr 45 68 false 77 72 76 false, zp 46 78 68 true 77, zm 47 4 78, .g (.keep [4])]) (.ret))))))))
def model_field.rs : List Rs := [.sl 4]
theorem model_field.ok : isFn Tryz.prog model_field.id 79 model_field.ann model_field.ir model_field.rs := ⟨Tryz.f54, _, Tryz.func54, rfl, rfl, by kernel_rfl, by kernel_rfl⟩
-- hallmark/model.counts
def model_counts.ann : List (Nat × RA) := [(0, rk [0, 1]), (1, rk [4])]
def model_counts.ir : C := .seq (.reg 0 [zb 0 4 false, .g (.keep [0, 1])]) (.seq (.reg 0 [zm 0 5 0, zq 1 6 5, zm 2 7 6, ym 3 7 false 8 1, yd 4 7 false 9 .geq 8 1, ym 5 7 false 10 9, ym 6 10 true 11 1, yd 7 10 true 12 .leq 11 64, yr 8 7 false 13 10 12 false, zp 9 14 7 true 13, zm 10 4 14, .g (.keep [4])]) (.ret))
def model_counts.rs : List Rs := [.sl 4]
theorem model_counts.ok : isFn Tryz.prog model_counts.id 15 model_counts.ann model_counts.ir model_counts.rs := ⟨Tryz.f55, _, Tryz.func55, rfl, rfl, by kernel_rfl, by kernel_rfl⟩
-- hallmark/model.wide
def model_wide.ann : List (Nat × RA) := [(0, rk [2, 3]), (1, rp [4] [(18, [1000001])])]
def model_wide.ir : C := .seq (.reg 2 [.o 0 (.box (some 2) 0 10 (.tmp 0)), .o 1 (.box (some 3) 1 10 (.tmp 1)), zb 2 4 false, .g (.keep [2, 3])]) (.seq (.reg 0 [zf 0 5 3 3, zl 1 6 1 5, zm 2 7 6, yf 3 7 true 8 2 7, yl 4 7 true 9 1 8, yn 5 7 true 10 9, yd 6 7 true 11 .gtr 10 8, ym 7 7 true 12 11, yf 8 12 false 13 2 9, yl 9 12 false 14 1 13, yn 10 12 false 15 14, .gd 11 12 false (some 16) (.call (some 16) model_counts.id [(.const (.bool true)), (.tmp 15)]), yq 12 12 false 17 16, yp 13 7 true 18 12 true 17, ym 14 7 true 19 18, yf 15 19 false 20 2 9, yl 16 19 false 21 1 20, .gd 17 19 false (some 22) (.lt (some 22) (.mkfn (.func model_wide_1.id) [] [(.tmp 2)])), .gd 18 19 false (some 23) (.callb (some 23) (.func slices_ContainsFunc_LLint_Lint.id) [(.tmp 21), (.tmp 22)]), yp 19 7 true 24 19 true 23, zr 20 25 7 24 false, zm 21 4 25, .g (.keep [4])]) (.ret))
def model_wide.rs : List Rs := [.sl 4]
theorem model_wide.ok : isFn Tryz.prog model_wide.id 26 model_wide.ann model_wide.ir model_wide.rs := ⟨Tryz.f56, _, Tryz.func56, rfl, rfl, by kernel_rfl, by kernel_rfl⟩
-- slices.ContainsFunc[[]int,int]
def slices_ContainsFunc_Lint_int.ann : List (Nat × RA) := [(0, rk [0, 1]), (1, rk [4])]
def slices_ContainsFunc_Lint_int.ir : C := .seq (.reg 0 [zb 0 4 false, .g (.keep [0, 1])]) (.seq (.reg 0 [zm 0 5 0, zm 1 6 1, .o 2 (.call (some 7) slices_IndexFunc_Lint_int.id [(.tmp 5), (.tmp 6)]), zd 3 8 .geq 7 0, zm 4 4 8, .g (.keep [4])]) (.ret))
def slices_ContainsFunc_Lint_int.rs : List Rs := [.sl 4]
theorem slices_ContainsFunc_Lint_int.ok : isFn Tryz.prog slices_ContainsFunc_Lint_int.id 9 slices_ContainsFunc_Lint_int.ann slices_ContainsFunc_Lint_int.ir slices_ContainsFunc_Lint_int.rs := ⟨Tryz.f57, _, Tryz.func57, rfl, rfl, by kernel_rfl, by kernel_rfl⟩
-- hallmark/model.great
def model_great.ann : List (Nat × RA) := [(0, rk [0]), (1, rk [2])]
def model_great.ir : C := .seq (.reg 0 [zb 0 2 false, .g (.keep [0])]) (.seq (.reg 0 [zm 0 3 0, .o 1 (.call (some 4) slices_ContainsFunc_Lint_int.id [(.tmp 3), (.func model_great_1.id)]), zm 2 2 4, .g (.keep [2])]) (.ret))
def model_great.rs : List Rs := [.sl 2]
theorem model_great.ok : isFn Tryz.prog model_great.id 5 model_great.ann model_great.ir model_great.rs := ⟨Tryz.f58, _, Tryz.func58, rfl, rfl, by kernel_rfl, by kernel_rfl⟩
-- slices.ContainsFunc[[][]int,[]int]
def slices_ContainsFunc_LLint_Lint.ann : List (Nat × RA) := [(0, rk [0, 1]), (1, rk [4])]
def slices_ContainsFunc_LLint_Lint.ir : C := .seq (.reg 0 [zb 0 4 false, .g (.keep [0, 1])]) (.seq (.reg 0 [zm 0 5 0, zm 1 6 1, .o 2 (.call (some 7) slices_IndexFunc_LLint_Lint.id [(.tmp 5), (.tmp 6)]), zd 3 8 .geq 7 0, zm 4 4 8, .g (.keep [4])]) (.ret))
def slices_ContainsFunc_LLint_Lint.rs : List Rs := [.sl 4]
theorem slices_ContainsFunc_LLint_Lint.ok : isFn Tryz.prog slices_ContainsFunc_LLint_Lint.id 9 slices_ContainsFunc_LLint_Lint.ann slices_ContainsFunc_LLint_Lint.ir slices_ContainsFunc_LLint_Lint.rs := ⟨Tryz.f59, _, Tryz.func59, rfl, rfl, by kernel_rfl, by kernel_rfl⟩
-- hallmark/hallmarkref4.Name
def hallmarkref4_Name.ann : List (Nat × RA) := [(0, rk [0]), (1, rk [0, 17]), (2, rk [2]), (3, rk [0, 3]), (4, rk [0, 3, 21]), (5, rk [0, 3]), (6, rk [0, 3, 40]), (7, rk [2]), (8, rk [2])]
def hallmarkref4_Name.b0 : C := .seq (.seq (.reg 0 [zm 0 18 3, zm 1 19 0, .o 2 (.lt (some 20) (.lenStr (.tmp 19))), za 3 21 .lss 18 20, .g (.keep [0, 3, 21])]) (.cond (.tmp 21) (.skip) (.exit 0))) (.seq (.block 1 (.seq (.reg 0 [zm 0 24 0, zm 1 25 3, .o 2 (.lt (some 26) (.ixStr (.tmp 24) (.tmp 25))), .o 3 (.call (some 27) hallmarkref4_letter.id [(.tmp 26)]), zq 4 28 27, zm 5 29 28, ym 6 29 true 30 0, ym 7 29 true 31 3, .gd 8 29 true (some 32) (.lt (some 32) (.ixStr (.tmp 30) (.tmp 31))), .gd 9 29 true (some 33) (.lt (some 33) (.bin .lss (.tmp 32) (.const (.int .u8 48)))), ym 10 29 true 34 33, ym 11 34 false 35 0, ym 12 34 false 36 3, .gd 13 34 false (some 37) (.lt (some 37) (.ixStr (.tmp 35) (.tmp 36))), .gd 14 34 false (some 38) (.lt (some 38) (.bin .gtr (.tmp 37) (.const (.int .u8 57)))), yp 15 29 true 39 34 true 38, zr 16 40 29 39 false, .g (.keep [0, 3, 40])]) (.cond (.tmp 40) (.seq (.reg 0 [zb 0 2 false, .g (.keep [2])]) (.ret)) (.skip)))) (.reg 0 [zm 0 22 3, zd 1 23 .add 22 1, zm 2 3 23, .g (.keep [0, 3])]))
def hallmarkref4_Name.ir : C := .seq (.reg 0 [zb 0 2 false, .g (.keep [0])]) (.seq (.seq (.reg 0 [zm 0 4 0, .o 1 (.lt (some 5) (.lenStr (.tmp 4))), zd 2 6 .lss 5 1, zm 3 7 6, ym 4 7 false 8 0, .gd 5 7 false (some 9) (.lt (some 9) (.lenStr (.tmp 8))), yd 6 7 false 10 .gtr 9 16, zp 7 11 7 true 10, zm 8 12 11, ym 9 12 false 13 0, .gd 10 12 false (some 14) (.lt (some 14) (.ixStr (.tmp 13) (.const (.int .i64 0)))), .gd 11 12 false (some 15) (.call (some 15) hallmarkref4_letter.id [(.tmp 14)]), yq 12 12 false 16 15, zp 13 17 12 true 16, .g (.keep [0, 17])]) (.cond (.tmp 17) (.seq (.reg 0 [zb 0 2 false, .g (.keep [2])]) (.ret)) (.skip))) (.seq (.seq (.reg 0 [zk 0 3 1, .g (.keep [0, 3])]) (.block 0 (.loop hallmarkref4_Name.b0))) (.seq (.reg 0 [zb 0 2 true, .g (.keep [2])]) (.ret))))
def hallmarkref4_Name.rs : List Rs := [.sl 2]
theorem hallmarkref4_Name.ok : isFn Tryz.prog hallmarkref4_Name.id 41 hallmarkref4_Name.ann hallmarkref4_Name.ir hallmarkref4_Name.rs := ⟨Tryz.f60, _, Tryz.func60, rfl, rfl, by kernel_rfl, by kernel_rfl⟩
-- hallmark/hallmarkref4.Bounds
def hallmarkref4_Bounds.ann : List (Nat × RA) := [(0, rk [0, 1]), (1, rk [4])]
def hallmarkref4_Bounds.ir : C := .seq (.reg 0 [zb 0 4 false, .g (.keep [0, 1])]) (.seq (.reg 0 [zm 0 5 0, .o 1 (.call (some 6) hallmarkref4_size.id [(.tmp 5), (.const (.int .i64 1000000000))]), zm 2 7 6, ym 3 7 true 8 1, .gd 4 7 true (some 9) (.call (some 9) hallmarkref4_size.id [(.tmp 8), (.const (.int .i64 1000000000))]), zr 5 10 7 9 false, zm 6 11 10, ym 7 11 true 12 0, ym 8 11 true 13 1, ya 9 11 true 14 .leq 12 13, zr 10 15 11 14 false, zm 11 16 15, ym 12 16 true 17 1, ym 13 16 true 18 0, ya 14 16 true 19 .sub 17 18, yd 15 16 true 20 .lss 19 64, zr 16 21 16 20 false, zm 17 4 21, .g (.keep [4])]) (.ret))
def hallmarkref4_Bounds.rs : List Rs := [.sl 4]
theorem hallmarkref4_Bounds.ok : isFn Tryz.prog hallmarkref4_Bounds.id 22 hallmarkref4_Bounds.ann hallmarkref4_Bounds.ir hallmarkref4_Bounds.rs := ⟨Tryz.f61, _, Tryz.func61, rfl, rfl, by kernel_rfl, by kernel_rfl⟩
-- hallmark/hallmarkref4.foreign
def hallmarkref4_foreign.ann : List (Nat × RA) := [(0, rk [1]), (1, rk [1, 3]), (2, rk [1, 3, 4]), (3, rk [1, 3, 4, 5]), (4, rk [1, 3, 4, 5, 32]), (5, rk [2]), (6, rk [2])]
def hallmarkref4_foreign.ir : C := .seq (.reg 1 [.o 0 (.box (some 1) 0 10 (.tmp 0)), zb 1 2 false, .g (.keep [1])]) (.seq (.reg 0 [zf 0 6 1 0, zl 1 7 1 6, zm 2 3 7, .g (.keep [1, 3])]) (.seq (.reg 0 [zm 0 8 3, zd 1 9 .eql 8 1, zm 2 10 9, ym 3 10 false 11 3, yd 4 10 false 12 .eql 11 7, zp 5 13 10 true 12, zm 6 4 13, .g (.keep [1, 3, 4])]) (.seq (.reg 0 [zm 0 14 3, .o 1 (.call (some 15) hallmarkref4_lists.id [(.tmp 14)]), zm 2 5 15, .g (.keep [1, 3, 4, 5])]) (.seq (.seq (.reg 0 [zm 0 16 3, zd 1 17 .neq 16 9, zm 2 18 17, yf 3 18 true 19 1 4, yl 4 18 true 20 1 19, yd 5 18 true 21 .neq 20 0, zr 6 22 18 21 false, zm 7 23 22, ym 8 23 false 24 3, yd 9 23 false 25 .neq 24 8, ym 10 23 false 26 25, yf 11 26 true 27 1 9, yl 12 26 true 28 1 27, yn 13 26 true 29 28, yd 14 26 true 30 .gtr 29 0, yr 15 23 false 31 26 30 false, zp 16 32 23 true 31, .g (.keep [1, 3, 4, 5, 32])]) (.cond (.tmp 32) (.seq (.reg 0 [zb 0 2 true, .g (.keep [2])]) (.ret)) (.skip))) (.seq (.reg 0 [zm 0 33 3, zd 1 34 .neq 33 1, zm 2 35 34, ym 3 35 true 36 3, yd 4 35 true 37 .neq 36 9, zr 5 38 35 37 false, zm 6 39 38, yf 7 39 true 40 1 1, yl 8 39 true 41 1 40, yd 9 39 true 42 .neq 41 0, zr 10 43 39 42 false, zm 11 44 43, ym 12 44 false 45 4, yq 13 44 false 46 45, ym 14 44 false 47 46, yf 15 47 true 48 1 2, yl 16 47 true 49 1 48, yn 17 47 true 50 49, yd 18 47 true 51 .gtr 50 0, yr 19 44 false 52 47 51 false, zp 20 53 44 true 52, zm 21 54 53, ym 22 54 false 55 4, yq 23 54 false 56 55, ym 24 54 false 57 56, ym 25 57 true 58 3, yd 26 57 true 59 .neq 58 2, yr 27 54 false 60 57 59 false, ym 28 54 false 61 60, ym 29 61 true 62 3, yd 30 61 true 63 .neq 62 9, yr 31 54 false 64 61 63 false, ym 32 54 false 65 64, yf 33 65 true 66 1 3, yl 34 65 true 67 1 66, yd 35 65 true 68 .neq 67 0, yr 36 54 false 69 65 68 false, zp 37 70 54 true 69, zm 38 71 70, ym 39 71 false 72 3, yd 40 71 false 73 .neq 72 2, ym 41 71 false 74 73, ym 42 74 true 75 3, yd 43 74 true 76 .neq 75 4, yr 44 71 false 77 74 76 false, ym 45 71 false 78 77, ym 46 78 true 79 3, yd 47 78 true 80 .neq 79 7, yr 48 71 false 81 78 80 false, ym 49 71 false 82 81, yf 50 82 true 83 1 5, yl 51 82 true 84 1 83, yd 52 82 true 85 .neq 84 0, yr 53 71 false 86 82 85 false, zp 54 87 71 true 86, zm 55 88 87, ym 56 88 false 89 4, ym 57 88 false 90 89, ym 58 90 false 91 5, ym 59 90 false 92 91, ym 60 92 true 93 3, yd 61 92 true 94 .neq 93 5, yr 62 90 false 95 92 94 false, ym 63 90 false 96 95, ym 64 96 true 97 3, yd 65 96 true 98 .neq 97 6, yr 66 90 false 99 96 98 false, yp 67 88 false 100 90 true 99, ym 68 88 false 101 100, yf 69 101 true 102 1 6, yl 70 101 true 103 1 102, yd 71 101 true 104 .neq 103 0, yr 72 88 false 105 101 104 false, zp 73 106 88 true 105, zm 74 107 106, ym 75 107 false 108 5, yq 76 107 false 109 108, ym 77 107 false 110 109, yf 78 110 true 111 1 7, yl 79 110 true 112 1 111, yn 80 110 true 113 112, yd 81 110 true 114 .gtr 113 0, yr 82 107 false 115 110 114 false, zp 83 116 107 true 115, zm 84 117 116, ym 85 117 false 118 3, yd 86 117 false 119 .neq 118 4, ym 87 117 false 120 119, yf 88 120 true 121 1 8, yl 89 120 true 122 1 121, yn 90 120 true 123 122, yd 91 120 true 124 .gtr 123 0, yr 92 117 false 125 120 124 false, zp 93 126 117 true 125, zm 94 2 126, .g (.keep [2])]) (.ret))))))
def hallmarkref4_foreign.rs : List Rs := [.sl 2]
theorem hallmarkref4_foreign.ok : isFn Tryz.prog hallmarkref4_foreign.id 127 hallmarkref4_foreign.ann hallmarkref4_foreign.ir hallmarkref4_foreign.rs := ⟨Tryz.f62, _, Tryz.func62, rfl, rfl, by kernel_rfl, by kernel_rfl⟩
-- hallmark/hallmarkref4.lists
def hallmarkref4_lists.ann : List (Nat × RA) := [(0, rk [0]), (1, rk [2])]
def hallmarkref4_lists.ir : C := .seq (.reg 0 [zb 0 2 false, .g (.keep [0])]) (.seq (.reg 0 [zm 0 3 0, zd 1 4 .eql 3 3, zm 2 5 4, ym 3 5 false 6 0, yd 4 5 false 7 .eql 6 5, zp 5 8 5 true 7, zm 6 9 8, ym 7 9 false 10 0, yd 8 9 false 11 .eql 10 6, zp 9 12 9 true 11, zm 10 13 12, ym 11 13 false 14 0, yd 12 13 false 15 .eql 14 8, zp 13 16 13 true 15, zm 14 17 16, ym 15 17 false 18 0, yd 16 17 false 19 .eql 18 9, zp 17 20 17 true 19, zm 18 2 20, .g (.keep [2])]) (.ret))
def hallmarkref4_lists.rs : List Rs := [.sl 2]
theorem hallmarkref4_lists.ok : isFn Tryz.prog hallmarkref4_lists.id 21 hallmarkref4_lists.ann hallmarkref4_lists.ir hallmarkref4_lists.rs := ⟨Tryz.f63, _, Tryz.func63, rfl, rfl, by kernel_rfl, by kernel_rfl⟩
-- hallmark/hallmarkref4.rows
def hallmarkref4_rows.ann : List (Nat × RA) := [(0, rk [1]), (1, rk [1, 13]), (2, rk [2]), (3, rk [1, 3]), (4, rk [1, 3, 18]), (5, rk [1, 3]), (6, ro [1, 3, 30] [0, 1, 2, 3, 4, 5, 6, 7, 8, 9]), (7, rk [2]), (8, rk [2])]
def hallmarkref4_rows.b0 : C := .seq (.seq (.reg 0 [zm 0 14 3, zf 1 15 1 9, zl 2 16 1 15, zn 3 17 16, za 4 18 .lss 14 17, .g (.keep [1, 3, 18])]) (.cond (.tmp 18) (.skip) (.exit 0))) (.seq (.block 1 (.seq (.reg 0 [zf 0 21 1 9, zl 1 22 1 21, zm 2 23 3, zx 3 24 1 22 23, zl 4 25 1 24, zn 5 26 25, zf 6 27 1 7, zl 7 28 1 27, zn 8 29 28, za 9 30 .neq 26 29, .g (.keep [1, 3, 30])]) (.cond (.tmp 30) (.seq (.reg 0 [zb 0 2 false, .g (.keep [2])]) (.ret)) (.skip)))) (.reg 0 [zm 0 19 3, zd 1 20 .add 19 1, zm 2 3 20, .g (.keep [1, 3])]))
def hallmarkref4_rows.ir : C := .seq (.reg 1 [.o 0 (.box (some 1) 0 10 (.tmp 0)), zb 1 2 false, .g (.keep [1])]) (.seq (.seq (.reg 0 [zf 0 4 1 7, zl 1 5 1 4, zn 2 6 5, zd 3 7 .gtr 6 8, zm 4 8 7, yf 5 8 false 9 1 9, yl 6 8 false 10 1 9, yn 7 8 false 11 10, .gd 8 8 false (some 12) (.call (some 12) hallmarkref4_many.id [(.tmp 11)]), zp 9 13 8 true 12, .g (.keep [1, 13])]) (.cond (.tmp 13) (.seq (.reg 0 [zb 0 2 false, .g (.keep [2])]) (.ret)) (.skip))) (.seq (.seq (.reg 0 [zk 0 3 0, .g (.keep [1, 3])]) (.block 0 (.loop hallmarkref4_rows.b0))) (.seq (.reg 0 [zb 0 2 true, .g (.keep [2])]) (.ret))))
def hallmarkref4_rows.rs : List Rs := [.sl 2]
theorem hallmarkref4_rows.ok : isFn Tryz.prog hallmarkref4_rows.id 31 hallmarkref4_rows.ann hallmarkref4_rows.ir hallmarkref4_rows.rs := ⟨Tryz.f64, _, Tryz.func64, rfl, rfl, by kernel_rfl, by kernel_rfl⟩
-- hallmark/hallmarkref4.places
def hallmarkref4_places.ann : List (Nat × RA) := [(0, rk [1, 2]), (1, rk [1, 2, 5]), (2, rk [1, 2, 5, 6]), (3, rk [1, 2, 5, 6, 21]), (4, rk [1, 2, 5, 6]), (5, rk [1, 2, 5, 6]), (6, rk [4])]
def hallmarkref4_places.b0 : C := .seq (.seq (.reg 0 [zm 0 17 6, zf 1 18 2 7, zl 2 19 1 18, zn 3 20 19, za 4 21 .lss 17 20, .g (.keep [1, 2, 5, 6, 21])]) (.cond (.tmp 21) (.skip) (.exit 0))) (.seq (.block 1 (.reg 0 [zm 0 24 5, zm 1 25 24, yf 2 25 true 26 2 7, yl 3 25 true 27 1 26, ym 4 25 true 28 6, yx 5 25 true 29 1 27 28, yl 6 25 true 30 1 29, ym 7 25 true 31 1, .gd 8 25 true (some 32) (.call (some 32) hallmarkref4_place.id [(.tmp 30), (.tmp 31)]), zr 9 33 25 32 false, zm 10 5 33, .g (.keep [1, 2, 5, 6])])) (.reg 0 [zm 0 22 6, zd 1 23 .add 22 1, zm 2 6 23, .g (.keep [1, 2, 5, 6])]))
def hallmarkref4_places.ir : C := .seq (.reg 1 [.o 0 (.box (some 2) 0 10 (.tmp 0)), zb 1 4 false, .g (.keep [1, 2])]) (.seq (.reg 0 [zf 0 7 2 5, zl 1 8 1 7, zm 2 9 1, .o 3 (.call (some 10) hallmarkref4_place.id [(.tmp 8), (.tmp 9)]), zm 4 11 10, yf 5 11 true 12 2 6, yl 6 11 true 13 1 12, ym 7 11 true 14 1, .gd 8 11 true (some 15) (.call (some 15) hallmarkref4_place.id [(.tmp 13), (.tmp 14)]), zr 9 16 11 15 false, zm 10 5 16, .g (.keep [1, 2, 5])]) (.seq (.seq (.reg 0 [zk 0 6 0, .g (.keep [1, 2, 5, 6])]) (.block 0 (.loop hallmarkref4_places.b0))) (.seq (.reg 0 [zm 0 34 5, zm 1 4 34, .g (.keep [4])]) (.ret))))
def hallmarkref4_places.rs : List Rs := [.sl 4]
theorem hallmarkref4_places.ok : isFn Tryz.prog hallmarkref4_places.id 35 hallmarkref4_places.ann hallmarkref4_places.ir hallmarkref4_places.rs := ⟨Tryz.f65, _, Tryz.func65, rfl, rfl, by kernel_rfl, by kernel_rfl⟩
-- hallmark/hallmarkref4.Number
def hallmarkref4_Number.ann : List (Nat × RA) := [(0, rk [0]), (1, rk [2])]
def hallmarkref4_Number.ir : C := .seq (.reg 0 [zb 0 2 false, .g (.keep [0])]) (.seq (.reg 0 [zm 0 3 0, .o 1 (.call (some 4) hallmarkref4_size.id [(.tmp 3), (.const (.int .i64 1000000000))]), zm 2 2 4, .g (.keep [2])]) (.ret))
def hallmarkref4_Number.rs : List Rs := [.sl 2]
theorem hallmarkref4_Number.ok : isFn Tryz.prog hallmarkref4_Number.id 5 hallmarkref4_Number.ann hallmarkref4_Number.ir hallmarkref4_Number.rs := ⟨Tryz.f66, _, Tryz.func66, rfl, rfl, by kernel_rfl, by kernel_rfl⟩
-- hallmark/hallmarkref4.Coef
def hallmarkref4_Coef.ann : List (Nat × RA) := [(0, rk [0]), (1, rk [2])]
def hallmarkref4_Coef.ir : C := .seq (.reg 0 [zb 0 2 false, .g (.keep [0])]) (.seq (.reg 0 [zm 0 3 0, zd 1 4 .neq 3 0, zm 2 5 4, ym 3 5 true 6 0, .gd 4 5 true (some 7) (.call (some 7) hallmarkref4_size.id [(.tmp 6), (.const (.int .i64 1000000))]), zr 5 8 5 7 false, zm 6 2 8, .g (.keep [2])]) (.ret))
def hallmarkref4_Coef.rs : List Rs := [.sl 2]
theorem hallmarkref4_Coef.ok : isFn Tryz.prog hallmarkref4_Coef.id 9 hallmarkref4_Coef.ann hallmarkref4_Coef.ir hallmarkref4_Coef.rs := ⟨Tryz.f67, _, Tryz.func67, rfl, rfl, by kernel_rfl, by kernel_rfl⟩
-- slices.IndexFunc[[]hallmark/api.Var,hallmark/api.Var]
def slices_IndexFunc_Lapi_Var_api_Var.ann : List (Nat × RA) := [(0, rk [0, 1]), (1, rk [0, 1, 7, 8]), (2, rk [0, 1, 7, 8, 9]), (3, rk [0, 1, 5, 7, 8]), (4, rk [0, 1, 5, 7, 8, 16]), (5, rk [4]), (6, rk [0, 1, 7, 8]), (7, rk [4])]
def slices_IndexFunc_Lapi_Var_api_Var.b0 : C := .seq (.reg 0 [za 0 9 .lss 8 7, .g (.keep [0, 1, 7, 8, 9])]) (.seq (.cond (.tmp 9) (.skip) (.exit 0)) (.seq (.block 1 (.seq (.reg 0 [zm 0 10 8, zm 1 5 10, .g (.keep [0, 1, 5, 7, 8])]) (.seq (.reg 0 [zm 0 11 1, zm 1 12 0, zm 2 13 5, zx 3 14 3 12 13, zL 4 15 3 14, .o 5 (.callv (some 16) (.tmp 11) [(.tmp 15)]), .g (.keep [0, 1, 5, 7, 8, 16])]) (.cond (.tmp 16) (.seq (.reg 0 [zm 0 17 5, zm 1 4 17, .g (.keep [4])]) (.ret)) (.skip))))) (.reg 0 [zd 0 18 .add 8 1, zm 1 8 18, .g (.keep [0, 1, 7, 8])])))
def slices_IndexFunc_Lapi_Var_api_Var.ir : C := .seq (.reg 0 [zk 0 4 0, .g (.keep [0, 1])]) (.seq (.seq (.reg 0 [zm 0 6 0, zn 1 7 6, zk 2 8 0, .g (.keep [0, 1, 7, 8])]) (.block 0 (.loop slices_IndexFunc_Lapi_Var_api_Var.b0))) (.seq (.reg 0 [zk 0 4 (-1), .g (.keep [4])]) (.ret)))
def slices_IndexFunc_Lapi_Var_api_Var.rs : List Rs := [.sl 4]
theorem slices_IndexFunc_Lapi_Var_api_Var.ok : isFn Tryz.prog slices_IndexFunc_Lapi_Var_api_Var.id 19 slices_IndexFunc_Lapi_Var_api_Var.ann slices_IndexFunc_Lapi_Var_api_Var.ir slices_IndexFunc_Lapi_Var_api_Var.rs := ⟨Tryz.f68, _, Tryz.func68, rfl, rfl, by kernel_rfl, by kernel_rfl⟩
-- hallmark/model.lin
-- hallmark/model.kinds$1
-- hallmark/model.allDiff
-- hallmark/model.element
-- hallmark/model.kinds$2
-- slices.Max[[]int,int]
-- hallmark/model.each
-- hallmark/model.kinds$3
-- slices.Min[[]int,int]
-- hallmark/model.reif
-- hallmark/model.table
-- hallmark/model.count
-- hallmark/model.wide$1
def model_wide_1.ann : List (Nat × RA) := [(0, rk [0, 1]), (1, rk [3])]
def model_wide_1.ir : C := .seq (.reg 0 [zb 0 3 false, .g (.keep [0, 1])]) (.seq (.reg 0 [zm 0 4 0, zn 1 5 4, zf 2 6 1 7, zl 3 7 1 6, zn 4 8 7, za 5 9 .neq 5 8, zm 6 3 9, .g (.keep [3])]) (.ret))
def model_wide_1.rs : List Rs := [.sl 3]
theorem model_wide_1.ok : isFn Tryz.prog model_wide_1.id 10 model_wide_1.ann model_wide_1.ir model_wide_1.rs := ⟨Tryz.f81, _, Tryz.func81, rfl, rfl, by kernel_rfl, by kernel_rfl⟩
-- slices.IndexFunc[[]int,int]
def slices_IndexFunc_Lint_int.ann : List (Nat × RA) := [(0, rk [0, 1]), (1, rk [0, 1, 7, 8]), (2, rk [0, 1, 7, 8, 9]), (3, rk [0, 1, 5, 7, 8]), (4, rk [0, 1, 5, 7, 8, 16]), (5, rk [4]), (6, rk [0, 1, 7, 8]), (7, rk [4])]
def slices_IndexFunc_Lint_int.b0 : C := .seq (.reg 0 [za 0 9 .lss 8 7, .g (.keep [0, 1, 7, 8, 9])]) (.seq (.cond (.tmp 9) (.skip) (.exit 0)) (.seq (.block 1 (.seq (.reg 0 [zm 0 10 8, zm 1 5 10, .g (.keep [0, 1, 5, 7, 8])]) (.seq (.reg 0 [zm 0 11 1, zm 1 12 0, zm 2 13 5, zx 3 14 1 12 13, zl 4 15 1 14, .o 5 (.callv (some 16) (.tmp 11) [(.tmp 15)]), .g (.keep [0, 1, 5, 7, 8, 16])]) (.cond (.tmp 16) (.seq (.reg 0 [zm 0 17 5, zm 1 4 17, .g (.keep [4])]) (.ret)) (.skip))))) (.reg 0 [zd 0 18 .add 8 1, zm 1 8 18, .g (.keep [0, 1, 7, 8])])))
def slices_IndexFunc_Lint_int.ir : C := .seq (.reg 0 [zk 0 4 0, .g (.keep [0, 1])]) (.seq (.seq (.reg 0 [zm 0 6 0, zn 1 7 6, zk 2 8 0, .g (.keep [0, 1, 7, 8])]) (.block 0 (.loop slices_IndexFunc_Lint_int.b0))) (.seq (.reg 0 [zk 0 4 (-1), .g (.keep [4])]) (.ret)))
def slices_IndexFunc_Lint_int.rs : List Rs := [.sl 4]
theorem slices_IndexFunc_Lint_int.ok : isFn Tryz.prog slices_IndexFunc_Lint_int.id 19 slices_IndexFunc_Lint_int.ann slices_IndexFunc_Lint_int.ir slices_IndexFunc_Lint_int.rs := ⟨Tryz.f82, _, Tryz.func82, rfl, rfl, by kernel_rfl, by kernel_rfl⟩
-- hallmark/model.great$1
def model_great_1.ann : List (Nat × RA) := [(0, rk [0]), (1, rk [2])]
def model_great_1.ir : C := .seq (.reg 0 [zb 0 2 false, .g (.keep [0])]) (.seq (.reg 0 [zm 0 3 0, .o 1 (.call (some 4) model_within.id [(.tmp 3), (.const (.int .i64 1000000000))]), zq 2 5 4, zm 3 2 5, .g (.keep [2])]) (.ret))
def model_great_1.rs : List Rs := [.sl 2]
theorem model_great_1.ok : isFn Tryz.prog model_great_1.id 6 model_great_1.ann model_great_1.ir model_great_1.rs := ⟨Tryz.f83, _, Tryz.func83, rfl, rfl, by kernel_rfl, by kernel_rfl⟩
-- slices.IndexFunc[[][]int,[]int]
def slices_IndexFunc_LLint_Lint.ann : List (Nat × RA) := [(0, rk [0, 1]), (1, rk [0, 1, 7, 8]), (2, rk [0, 1, 7, 8, 9]), (3, rk [0, 1, 5, 7, 8]), (4, rk [0, 1, 5, 7, 8, 16]), (5, rk [4]), (6, rk [0, 1, 7, 8]), (7, rk [4])]
def slices_IndexFunc_LLint_Lint.b0 : C := .seq (.reg 0 [za 0 9 .lss 8 7, .g (.keep [0, 1, 7, 8, 9])]) (.seq (.cond (.tmp 9) (.skip) (.exit 0)) (.seq (.block 1 (.seq (.reg 0 [zm 0 10 8, zm 1 5 10, .g (.keep [0, 1, 5, 7, 8])]) (.seq (.reg 0 [zm 0 11 1, zm 1 12 0, zm 2 13 5, zx 3 14 1 12 13, zl 4 15 1 14, .o 5 (.callv (some 16) (.tmp 11) [(.tmp 15)]), .g (.keep [0, 1, 5, 7, 8, 16])]) (.cond (.tmp 16) (.seq (.reg 0 [zm 0 17 5, zm 1 4 17, .g (.keep [4])]) (.ret)) (.skip))))) (.reg 0 [zd 0 18 .add 8 1, zm 1 8 18, .g (.keep [0, 1, 7, 8])])))
def slices_IndexFunc_LLint_Lint.ir : C := .seq (.reg 0 [zk 0 4 0, .g (.keep [0, 1])]) (.seq (.seq (.reg 0 [zm 0 6 0, zn 1 7 6, zk 2 8 0, .g (.keep [0, 1, 7, 8])]) (.block 0 (.loop slices_IndexFunc_LLint_Lint.b0))) (.seq (.reg 0 [zk 0 4 (-1), .g (.keep [4])]) (.ret)))
def slices_IndexFunc_LLint_Lint.rs : List Rs := [.sl 4]
theorem slices_IndexFunc_LLint_Lint.ok : isFn Tryz.prog slices_IndexFunc_LLint_Lint.id 19 slices_IndexFunc_LLint_Lint.ann slices_IndexFunc_LLint_Lint.ir slices_IndexFunc_LLint_Lint.rs := ⟨Tryz.f84, _, Tryz.func84, rfl, rfl, by kernel_rfl, by kernel_rfl⟩
-- hallmark/hallmarkref4.letter
def hallmarkref4_letter.ann : List (Nat × RA) := [(0, rk [0]), (1, rk [2])]
def hallmarkref4_letter.ir : C := .seq (.reg 0 [zb 0 2 false, .g (.keep [0])]) (.seq (.reg 0 [zm 0 3 0, .o 1 (.lt (some 4) (.bin .geq (.tmp 3) (.const (.int .u8 97)))), zm 2 5 4, ym 3 5 true 6 0, .gd 4 5 true (some 7) (.lt (some 7) (.bin .leq (.tmp 6) (.const (.int .u8 122)))), zr 5 8 5 7 false, zm 6 9 8, ym 7 9 false 10 0, .gd 8 9 false (some 11) (.lt (some 11) (.bin .geq (.tmp 10) (.const (.int .u8 65)))), ym 9 9 false 12 11, ym 10 12 true 13 0, .gd 11 12 true (some 14) (.lt (some 14) (.bin .leq (.tmp 13) (.const (.int .u8 90)))), yr 12 9 false 15 12 14 false, zp 13 16 9 true 15, zm 14 17 16, ym 15 17 false 18 0, .gd 16 17 false (some 19) (.lt (some 19) (.bin .eql (.tmp 18) (.const (.int .u8 95)))), zp 17 20 17 true 19, zm 18 2 20, .g (.keep [2])]) (.ret))
def hallmarkref4_letter.rs : List Rs := [.sl 2]
theorem hallmarkref4_letter.ok : isFn Tryz.prog hallmarkref4_letter.id 21 hallmarkref4_letter.ann hallmarkref4_letter.ir hallmarkref4_letter.rs := ⟨Tryz.f85, _, Tryz.func85, rfl, rfl, by kernel_rfl, by kernel_rfl⟩
-- hallmark/hallmarkref4.size
def hallmarkref4_size.ann : List (Nat × RA) := [(0, rk [0, 1]), (1, rk [4])]
def hallmarkref4_size.ir : C := .seq (.reg 0 [zb 0 4 false, .g (.keep [0, 1])]) (.seq (.reg 0 [zm 0 5 0, zm 1 6 1, .o 2 (.lt (some 7) (.un .neg (.tmp 6))), za 3 8 .geq 5 7, zm 4 9 8, ym 5 9 true 10 0, ym 6 9 true 11 1, ya 7 9 true 12 .leq 10 11, zr 8 13 9 12 false, zm 9 4 13, .g (.keep [4])]) (.ret))
def hallmarkref4_size.rs : List Rs := [.sl 4]
theorem hallmarkref4_size.ok : isFn Tryz.prog hallmarkref4_size.id 14 hallmarkref4_size.ann hallmarkref4_size.ir hallmarkref4_size.rs := ⟨Tryz.f86, _, Tryz.func86, rfl, rfl, by kernel_rfl, by kernel_rfl⟩
-- hallmark/hallmarkref4.place
def hallmarkref4_place.ann : List (Nat × RA) := [(0, rk [0, 1]), (1, rk [4])]
def hallmarkref4_place.ir : C := .seq (.reg 0 [zb 0 4 false, .g (.keep [0, 1])]) (.seq (.reg 0 [zm 0 5 0, zd 1 6 .geq 5 0, zm 2 7 6, ym 3 7 true 8 0, ym 4 7 true 9 1, ya 5 7 true 10 .lss 8 9, zr 6 11 7 10 false, zm 7 4 11, .g (.keep [4])]) (.ret))
def hallmarkref4_place.rs : List Rs := [.sl 4]
theorem hallmarkref4_place.ok : isFn Tryz.prog hallmarkref4_place.id 12 hallmarkref4_place.ann hallmarkref4_place.ir hallmarkref4_place.rs := ⟨Tryz.f87, _, Tryz.func87, rfl, rfl, by kernel_rfl, by kernel_rfl⟩
-- hallmark/model.is
-- hallmark/model.sum
-- slices.Compact[[]int,int]
-- hallmark/model.table$1
-- slices.Equal[[]int,int]
end Go.Abs.G

/- What the row's reading tells, as abstract values. -/
namespace Go.Abs
set_option linter.unusedVariables false

def βz : Nat → Hd := fun _ => ⟨0, 0, 0, 0, 0, false, 0, noSub⟩
def cz (w : World) : Cx := cx w.heap [] βz (fun _ => False)

theorem cz_own (w : World) (b : Nat) : ¬ (cz w).own b := by
  rintro (⟨i, e⟩ | e)
  · simp [ownsB] at e
  · exact e

theorem cz_only {w : World} {v : Value} {x : V} (h : RV (cz w) v x) : RV ((cz w).only []) v x :=
  h.mono ⟨Nat.le_refl _, fun _ _ hn => ⟨rfl, hn⟩, fun i hl => by obtain ⟨o, ho, _⟩ := hl; simp at ho, fun _ _ _ e => .inl e⟩

theorem cz_hok (w : World) : HOK w.heap [] βz (fun _ => False) :=
  ⟨fun id o h => by simp at h, fun id id' b h => by simp [ownsB] at h, fun b h => h.elim⟩

/-- What reads as a value of type t is some x's. -/
def Rd (P : Program) (t : TypeId) (n : Nat) {α : Type} (f : α → List V) (ok : α → Prop) : Prop :=
  P.cellsOf t = n ∧ ∀ (H : Type) (enc : TypeId × Value → H) (w : World) (fuel : Nat) (cs : List Value) (d : DataW H) (ps : List MemPlace), DataW.trod enc P w 0 (fun _ => true) true fuel t cs = some (d, ps) → (∀ q ∈ DataW.weights P t d, q ≤ reachBytes) →
    ∃ x, ok x ∧ (f x).length = n ∧ cs.length = n ∧ ∀ (i : Nat) (v : Value) (y : V), cs[i]? = some v → (f x)[i]? = some y → v.oneCell' = true ∧ RV (cz w) v y

section
variable {P : Program} {t : TypeId}

theorem one_get {v0 : Value} {y0 : V} {w : World} (h1 : v0.oneCell' = true) (h2 : RV (cz w) v0 y0) : ∀ (i : Nat) (v : Value) (y : V), [v0][i]? = some v → [y0][i]? = some y → v.oneCell' = true ∧ RV (cz w) v y := by
  intro i v y a b
  cases i with
  | zero => simp at a b; subst a; subst b; exact ⟨h1, h2⟩
  | succ i => simp at a

theorem Rd.int {k : IntKind} (hu : P.underlying t = some (.int k)) (hc : P.cellsOf t = 1) : Rd P t 1 (fun n : Int => [.a (.int k n)]) (fun n => (Lit.int k n).wf = true) := by
  refine ⟨hc, fun H enc w fuel cs d ps h hwt => ?_⟩
  cases fuel with
  | zero => simp [DataW.trod] at h
  | succ fuel =>
    unfold DataW.trod at h
    rw [hu] at h
    rcases cs with _ | ⟨v, _ | ⟨v2, cs⟩⟩
    · cases h
    · cases v <;> first | cases h | skip
      next k' n =>
      simp only at h
      split at h
      · next hk =>
        obtain ⟨rfl, hk⟩ := hk
        exact ⟨n, hk, rfl, rfl, one_get rfl .a⟩
      · cases h
    · simp at h

theorem Rd.bool (hu : P.underlying t = some .bool) (hc : P.cellsOf t = 1) : Rd P t 1 (fun b : Bool => [.a (.bool b)]) (fun _ => True) := by
  refine ⟨hc, fun H enc w fuel cs d ps h hwt => ?_⟩
  cases fuel with
  | zero => simp [DataW.trod] at h
  | succ fuel =>
    unfold DataW.trod at h
    rw [hu] at h
    rcases cs with _ | ⟨v, _ | ⟨v2, cs⟩⟩
    · cases h
    · cases v <;> first | cases h | skip
      next b => exact ⟨b, trivial, rfl, rfl, one_get rfl .a⟩
    · simp at h

theorem Rd.str (hu : P.underlying t = some .string) (hc : P.cellsOf t = 1) : Rd P t 1 (fun s : ByteArray => [.a (.string s)]) (fun s => s.size ≤ maxLen ∧ s.size ≤ reachBytes) := by
  refine ⟨hc, fun H enc w fuel cs d ps h hwt => ?_⟩
  cases fuel with
  | zero => simp [DataW.trod] at h
  | succ fuel =>
    unfold DataW.trod at h
    rw [hu] at h
    rcases cs with _ | ⟨v, _ | ⟨v2, cs⟩⟩
    · cases h
    · cases v <;> first | cases h | skip
      next s =>
      simp only at h
      split at h
      · next hs =>
        injection h with h
        injection h with h1 h2
        subst h1
        exact ⟨s, ⟨hs, by have := hwt s.data.toList.length (by simp [DataW.weights]); simpa using this⟩, rfl, rfl, one_get rfl .a⟩
      · cases h
    · simp at h

theorem cells?_get {w : World} {a : Addr} {n : Nat} {cs : List Value} (h : w.cells? 0 a n = some cs) : cs.length = n ∧ ∀ (i : Nat) (v : Value), cs[i]? = some v → look w.heap a.block (a.off + i) = some v ∧ (i = 0 → a.spot = none) := by
  unfold World.cells? at h
  rw [if_pos (Nat.zero_le _)] at h
  obtain ⟨h1, h2⟩ := mapM_some h
  have hl : cs.length = n := by rw [h1]; simp
  refine ⟨hl, fun i v hv => ?_⟩
  have hi : i < n := by rw [← hl]; exact lt_of_get hv
  obtain ⟨y, hy, hc⟩ := h2 i i (List.getElem?_range hi)
  rw [hv] at hy; injection hy with hy; subst hy
  have hadd : (a.add i).block = a.block ∧ ((a.add i).spot = none → (i = 0 → a.spot = none) ∧ (a.add i).off = a.off + i) := by
    unfold Addr.add
    split
    · next e => subst e; exact ⟨rfl, fun h => ⟨fun _ => h, by simp⟩⟩
    · next e => exact ⟨rfl, fun h => ⟨fun e' => (e e').elim, rfl⟩⟩
  unfold World.cell? at hc
  rw [hadd.1] at hc
  split at hc
  · next c _ _ hb =>
    split at hc
    · cases hc
    · next hs =>
      have hs : (a.add i).spot = none := by simpa using hs
      obtain ⟨g1, g2⟩ := hadd.2 hs
      rw [g2] at hc
      exact ⟨by unfold look; rw [hb]; exact hc, g1⟩
  · cases hc

theorem all_choice {α β : Type} {R : Nat → α → β → Prop} : ∀ (l : List α) (k : Nat), (∀ (i : Nat) (x : α), l[i]? = some x → ∃ y, R (k + i) x y) → ∃ r : List β, r.length = l.length ∧ ∀ (i : Nat) (x : α) (y : β), l[i]? = some x → r[i]? = some y → R (k + i) x y := by
  intro l
  induction l with
  | nil => intro k _; exact ⟨[], rfl, fun i x y h => by simp at h⟩
  | cons a l ih =>
    intro k h
    obtain ⟨y, hy⟩ := h 0 a rfl
    obtain ⟨r, h1, h2⟩ := ih (k + 1) fun i x hx => by
      obtain ⟨y, hy⟩ := h (i + 1) x hx
      exact ⟨y, by rw [show k + 1 + i = k + (i + 1) from by omega]; exact hy⟩
    refine ⟨y :: r, by simp [h1], fun i x z hx hz => ?_⟩
    cases i with
    | zero => simp at hx hz; subst hx; subst hz; exact hy
    | succ i =>
      have := h2 i x z (by simpa using hx) (by simpa using hz)
      rw [show k + (i + 1) = k + 1 + i from by omega]; exact this

theorem weightsAll_mem {H : Type} {P : Program} {e : TypeId} {l : List (DataW H)} {d : DataW H} {q : Nat} (hd : d ∈ l) (hq : q ∈ DataW.weights P e d) : q ∈ DataW.weightsAll P e l := by
  induction l with
  | nil => cases hd
  | cons a l ih =>
    simp only [DataW.weightsAll, List.mem_append]
    rcases List.mem_cons.1 hd with rfl | hd
    · exact .inl hq
    · exact .inr (ih hd)

theorem Rd.slice {e : TypeId} {n : Nat} {α : Type} {f : α → List V} {ok : α → Prop} (hu : P.underlying t = some (.slice e)) (hc : P.cellsOf t = 1) (hn : 0 < n) (he : Rd P e n f ok) :
    Rd P t 1 (fun l : List α => [.view n (l.map f)]) (fun l => l.length ≤ maxLen ∧ l.length * P.bytesOf e ≤ reachBytes ∧ ∀ x ∈ l, ok x) := by
  refine ⟨hc, fun H enc w fuel cs d ps h hwt => ?_⟩
  obtain ⟨hen, hel⟩ := he
  cases fuel with
  | zero => simp [DataW.trod] at h
  | succ fuel =>
    unfold DataW.trod at h
    rw [hu] at h
    rcases cs with _ | ⟨v, _ | ⟨v2, cs⟩⟩
    · cases h
    · cases v <;> first | cases h | skip
      next base len cap =>
      cases base with
      | none =>
        cases len <;> cases cap <;> first | cases h | skip
        exact ⟨[], ⟨Nat.zero_le _, by simp, by simp⟩, rfl, rfl, one_get rfl .nilv⟩
      | some a =>
        simp only at h
        split at h
        · next hg =>
          obtain ⟨_, hlc, hcm⟩ := hg
          simp only [Option.bind_eq_some_iff, Option.map_eq_some_iff] at h
          obtain ⟨elems, h1, rest, _, hd⟩ := h
          injection hd with hd1 hd2
          subst hd1
          simp only [DataW.weights, hu, List.mem_cons, List.mem_append] at hwt
          obtain ⟨g1, g2⟩ := mapM_some h1
          have hlen : elems.length = len := by rw [g1]; simp
          have hall : ∀ (i : Nat) (x : DataW H × List MemPlace), elems[i]? = some x → ∃ y : α, ok y ∧ (f y).length = n ∧ ∀ (j : Nat) (z : V), (f y)[j]? = some z → ∃ v, look w.heap a.block (a.off + (0 + i) * n + j) = some v ∧ (0 + i = 0 → j = 0 → a.spot = none) ∧ v.oneCell' = true ∧ RV (cz w) v z := by
            intro i x hx
            have hi : i < len := by rw [← hlen]; exact lt_of_get hx
            obtain ⟨y, hy, hc⟩ := g2 i i (List.getElem?_range hi)
            rw [hx] at hy; injection hy with hy; subst hy
            rw [Option.bind_eq_some_iff] at hc
            obtain ⟨ci, hci, htr⟩ := hc
            rw [hen] at hci
            obtain ⟨c1, c2⟩ := cells?_get hci
            obtain ⟨y, k1, k2, k3, k4⟩ := hel H enc w fuel ci _ _ htr fun q hq => hwt q (.inr (.inl (weightsAll_mem (List.mem_map_of_mem (List.mem_of_getElem? hx)) hq)))
            refine ⟨y, k1, k2, fun j z hz => ?_⟩
            have hj : j < ci.length := by rw [k3, ← k2]; exact lt_of_get hz
            have hv := List.getElem?_eq_getElem hj
            obtain ⟨m1, m2⟩ := k4 j _ z hv hz
            obtain ⟨q1, q2⟩ := c2 j _ hv
            have hadd : (a.add (i * n)).block = a.block ∧ (a.add (i * n)).off = a.off + i * n := by
              unfold Addr.add
              split
              · next e => rw [e]; exact ⟨rfl, by simp⟩
              · exact ⟨rfl, rfl⟩
            rw [hadd.1, hadd.2] at q1
            refine ⟨_, by rw [Nat.zero_add]; exact q1, fun e0 e1 => ?_, m1, m2⟩
            have := q2 e1
            rw [show i * n = 0 from by rw [show i = 0 from by omega, Nat.zero_mul]] at this
            unfold Addr.add at this
            simpa using this
          obtain ⟨xs, x1, x2⟩ := all_choice (R := fun i x y => ok y ∧ (f y).length = n ∧ ∀ (j : Nat) (z : V), (f y)[j]? = some z → ∃ v, look w.heap a.block (a.off + i * n + j) = some v ∧ (i = 0 → j = 0 → a.spot = none) ∧ v.oneCell' = true ∧ RV (cz w) v z) elems 0 hall
          have hx : ∀ (i : Nat) (y : α), xs[i]? = some y → ok y ∧ (f y).length = n ∧ ∀ (j : Nat) (z : V), (f y)[j]? = some z → ∃ v, look w.heap a.block (a.off + i * n + j) = some v ∧ (i = 0 → j = 0 → a.spot = none) ∧ v.oneCell' = true ∧ RV (cz w) v z := by
            intro i y hy
            have hi : i < elems.length := by rw [← x1]; exact lt_of_get hy
            have := x2 i _ y (List.getElem?_eq_getElem hi) hy
            rw [Nat.zero_add] at this; exact this
          refine ⟨xs, ⟨by omega, ?_, fun y hy => ?_⟩, rfl, rfl, one_get rfl ?_⟩
          · have h1 := hwt _ (.inl rfl)
            refine Nat.le_trans (Nat.mul_le_mul_right _ ?_) h1
            simp [x1]
          · obtain ⟨i, hi⟩ := List.getElem?_of_mem hy
            exact (hx i y hi).1
          · have hrow : ∀ (i : Nat) (row : List V), (xs.map f)[i]? = some row → row.length = n ∧ ∀ (j : Nat) (z : V), row[j]? = some z → ∃ v, look w.heap a.block (a.off + i * n + j) = some v ∧ (i = 0 → j = 0 → a.spot = none) ∧ v.oneCell' = true ∧ RV (cz w) v z := by
              intro i row hi
              rw [List.getElem?_map, Option.map_eq_some_iff] at hi
              obtain ⟨y, hy, rfl⟩ := hi
              exact (hx i y hy).2
            have hl2 : len = (xs.map f).length := by simp [x1, hlen]
            rw [hl2]
            refine .view (fun i j => (look w.heap a.block (a.off + i * n + j)).getD undef) (fun hne => ?_) (by rw [← hl2]; exact hlc) (fun i row hi => (hrow i row hi).1) (fun i row hi j z hz => ?_) fun i row hi j z hz => ?_
            · have h0 : ∃ row, (xs.map f)[0]? = some row := by
                cases hq : xs.map f with
                | nil => exact (hne hq).elim
                | cons r l => exact ⟨r, rfl⟩
              obtain ⟨row, h0⟩ := h0
              obtain ⟨r1, r2⟩ := hrow 0 row h0
              obtain ⟨v, l1, l2, _⟩ := r2 0 _ (List.getElem?_eq_getElem (by omega))
              refine ⟨cz_own w _, ?_, l2 rfl rfl⟩
              unfold look at l1
              split at l1
              · next hb => exact hp_lt hb
              · cases l1
            · obtain ⟨v, l1, _, l3, _⟩ := (hrow i row hi).2 j z hz
              refine ⟨by show look w.heap _ _ = _; rw [l1]; rfl, by rw [l1]; exact l3⟩
            · obtain ⟨v, l1, _, _, l4⟩ := (hrow i row hi).2 j z hz
              rw [l1]; exact cz_only l4
        · cases h
    · simp at h

end
end Go.Abs

/- What the row's reading tells: structs, arguments. -/
namespace Go.Abs
set_option linter.unusedVariables false

/-- The same of a struct's fields from cell k on. -/
def RdF (P : Program) (fs : List Field) (k : Nat) (n : Nat) {α : Type} (f : α → List V) (ok : α → Prop) : Prop :=
  ∀ (H : Type) (enc : TypeId × Value → H) (w : World) (fuel : Nat) (cs : List Value) (xs : List (DataW H × List MemPlace)), fs.mapM (fun fd => DataW.trod enc P w 0 (fun _ => true) true fuel fd.type ((cs.drop fd.offset).take (P.cellsOf fd.type))) = some xs → (∀ q ∈ DataW.weightsEach P (fs.map (·.type)) (xs.map (·.1)), q ≤ reachBytes) →
    ∃ x, ok x ∧ (f x).length = n ∧ ∀ (i : Nat) (v : Value) (y : V), cs[k + i]? = some v → (f x)[i]? = some y → v.oneCell' = true ∧ RV (cz w) v y

theorem RdF.nil {P : Program} {k : Nat} : RdF P [] k 0 (fun _ : Unit => []) (fun _ => True) :=
  fun H enc w fuel cs xs h _ => ⟨(), trivial, rfl, fun i v y _ h => by simp at h⟩

theorem RdF.cons {P : Program} {fd : Field} {fs : List Field} {k n m : Nat} {α β : Type} {f : α → List V} {ok : α → Prop} {g : β → List V} {ok' : β → Prop} (ho : fd.offset = k) (h1 : Rd P fd.type n f ok) (h2 : RdF P fs (k + n) m g ok') :
    RdF P (fd :: fs) k (n + m) (fun p : α × β => f p.1 ++ g p.2) (fun p => ok p.1 ∧ ok' p.2) := by
  intro H enc w fuel cs xs h hwt
  rw [List.mapM_cons] at h
  simp only [bind, Option.bind_eq_some_iff, pure, Option.some.injEq] at h
  obtain ⟨d, hd, xs', hxs, rfl⟩ := h
  simp only [List.map_cons, DataW.weightsEach, List.mem_append] at hwt
  obtain ⟨x, a1, a2, a3, a4⟩ := h1.2 H enc w fuel _ _ _ hd fun q hq => hwt q (.inl hq)
  obtain ⟨y, b1, b2, b3⟩ := h2 H enc w fuel cs xs' hxs fun q hq => hwt q (.inr hq)
  refine ⟨(x, y), ⟨a1, b1⟩, by simp [a2, b2], fun i v z hv hz => ?_⟩
  rw [List.getElem?_append] at hz
  split at hz
  · next hi =>
    refine a4 i v z ?_ hz
    rw [List.getElem?_take, if_pos (by rw [h1.1, ← a2]; exact hi), List.getElem?_drop, ho]
    exact hv
  · next hi =>
    refine b3 (i - (f x).length) v z ?_ hz
    have hi : ¬ i < (f x).length := hi
    rw [← hv]; congr 1; omega

theorem Rd.struct {P : Program} {t : TypeId} {fs : Array Field} {n : Nat} {α : Type} {f : α → List V} {ok : α → Prop} (hu : P.underlying t = some (.struct fs)) (hc : P.cellsOf t = n) (hf : RdF P fs.toList 0 n f ok) : Rd P t n f ok := by
  refine ⟨hc, fun H enc w fuel cs d ps h hwt => ?_⟩
  cases fuel with
  | zero => simp [DataW.trod] at h
  | succ fuel =>
    have key : cs.length = P.cellsOf t ∧ ∃ xs, d = .agg (xs.map (·.1)) ∧ fs.toList.mapM (fun fd => DataW.trod enc P w 0 (fun _ => true) true fuel fd.type ((cs.drop fd.offset).take (P.cellsOf fd.type))) = some xs := by
      unfold DataW.trod at h
      rw [hu] at h
      simp only at h
      split at h
      · next hl =>
        rw [Option.map_eq_some_iff] at h
        obtain ⟨xs, h1, h2⟩ := h
        injection h2 with h2 h3
        exact ⟨hl, xs, h2.symm, h1⟩
      · cases h
    obtain ⟨hl, xs, rfl, hx⟩ := key
    obtain ⟨x, a1, a2, a3⟩ := hf H enc w fuel cs xs hx fun q hq => hwt q (by simp only [DataW.weights, hu]; exact hq)
    exact ⟨x, a1, a2, by rw [hl, hc], fun i v y hv hy => a3 i v y (by rw [Nat.zero_add]; exact hv) hy⟩

theorem Rd.map {P : Program} {t : TypeId} {n : Nat} {α β : Type} {f : α → List V} {ok : α → Prop} {g : β → List V} {ok' : β → Prop} (h : Rd P t n f ok) (hm : ∀ x, ok x → ∃ y, ok' y ∧ g y = f x) : Rd P t n g ok' := by
  refine ⟨h.1, fun H enc w fuel cs d ps ht hwt => ?_⟩
  obtain ⟨x, a1, a2, a3, a4⟩ := h.2 H enc w fuel cs d ps ht hwt
  obtain ⟨y, b1, b2⟩ := hm x a1
  exact ⟨y, b1, by rw [b2]; exact a2, a3, by rw [b2]; exact a4⟩

/-- An argument of one cell. -/
theorem Rd.arg1 {P : Program} {t : TypeId} {α : Type} {f : α → V} {ok : α → Prop} (h : Rd P t 1 (fun x => [f x]) ok) {H : Type} {enc : TypeId × Value → H} {w : World} {v : Value} {d : DataW H} {ps : List MemPlace} (ht : DataW.Trod enc P w 0 (fun _ => true) true t v d ps)
    (hwt : ∀ q ∈ DataW.weights P t d, q ≤ reachBytes) (hone : v.oneCell' = true) : ∃ x, ok x ∧ RV (cz w) v (f x) := by
  obtain ⟨fuel, ht⟩ := ht
  obtain ⟨x, a1, a2, a3, a4⟩ := h.2 H enc w fuel _ d ps ht hwt
  refine ⟨x, a1, (a4 0 v (f x) ?_ rfl).2⟩
  rw [cells_one hone]; rfl

/-- An argument of many. -/
theorem Rd.argN {P : Program} {t : TypeId} {n : Nat} {α : Type} {f : α → List V} {ok : α → Prop} (h : Rd P t n f ok) {H : Type} {enc : TypeId × Value → H} {w : World} {cs : Array Value} {d : DataW H} {ps : List MemPlace} (ht : DataW.Trod enc P w 0 (fun _ => true) true t (.agg cs) d ps) (hwt : ∀ q ∈ DataW.weights P t d, q ≤ reachBytes) :
    ∃ x, ok x ∧ RV (cz w) (.agg cs) (.agg (f x)) := by
  obtain ⟨fuel, ht⟩ := ht
  obtain ⟨x, a1, a2, a3, a4⟩ := h.2 H enc w fuel _ d ps ht hwt
  have a3 : cs.size = n := by simpa [Value.cells] using a3
  refine ⟨x, a1, .agg (by rw [a3, a2]) (fun i v hv => ?_) fun i v y hv hy => (a4 i v y (by simpa [Value.cells] using hv) hy).2⟩
  have hi : i < (f x).length := by rw [a2, ← a3]; exact (Array.getElem?_eq_some_iff.1 hv).1
  exact (a4 i v _ (by simpa [Value.cells] using hv) (List.getElem?_eq_getElem hi)).1

theorem weights_cons {H : Type} {P : Program} {t : TypeId} {ts : List TypeId} {d : DataW H} {ds : List (DataW H)} (h : (DataW.weightsEach P (t :: ts) (d :: ds)).all (· ≤ reachBytes) = true) :
    (∀ q ∈ DataW.weights P t d, q ≤ reachBytes) ∧ (DataW.weightsEach P ts ds).all (· ≤ reachBytes) = true := by
  simp only [DataW.weightsEach, List.all_append, Bool.and_eq_true] at h
  exact ⟨fun q hq => by simpa using List.all_eq_true.1 h.1 q hq, h.2⟩

/-- A law's call. -/
theorem DC.law {P : Program} {f : FuncId} {xs : List V} (h : DC P f xs [] fun r _ => r = .bool true) {W : World} {args : Array Value} (hr : RVs (cz W) args xs) :
    Calls P f args W fun e W' => e = .returned (.bool true) ∧ RowKit.Below W.heap.size W W' := by
  refine (h W βz (fun _ => False) args (cz_hok W) hr).mono fun e W' hres => ?_
  obtain ⟨r, x, H', β', rfl, adv, hx, rfl⟩ := hres
  rw [hx.of_a]
  refine ⟨rfl, adv.ext.os, adv.ext.tape, adv.ext.output, adv.ext.size, fun k hk => adv.ext.block k hk fun ⟨i, e⟩ => ?_⟩
  simp [ownsB] at e

theorem RVs.cons {c : Cx} {v : Value} {x : V} {vs : Array Value} {xs : List V} (h : RV c v x) (hs : RVs c vs xs) : RVs c (#[v] ++ vs) (x :: xs) := by
  refine ⟨by simp [hs.1]; omega, fun i u y h1 h2 => ?_⟩
  cases i with
  | zero => simp [Array.getElem?_append] at h1 h2; subst h1; subst h2; exact h
  | succ i =>
    rw [Array.getElem?_append, if_neg (by simp)] at h1
    exact hs.2 i u y (by simpa using h1) (by simpa using h2)

end Go.Abs

/- The problems, as Lean data. -/
namespace Go.Abs
attribute [local simp] I.vc sub merge place

structure Var where
  name : ByteArray
  lo : Int
  hi : Int
structure Term where
  c : Int
  x : Int
structure Con where
  kind : Int
  op : Int
  terms : List Term
  k : Int
  v : Int
  x : Int
  y : Int
  xs : List Int
  table : List Int
  rows : List (List Int)
structure Model where
  vars : List Var
  cons : List Con
  hasGoal : Bool
  goal : List Term

abbrev V.i (n : Int) : V := .a (.int .i64 n)
def vInts (l : List Int) : V := .view 1 (l.map fun n => [V.i n])
def vIntss (l : List (List Int)) : V := .view 1 (l.map fun r => [vInts r])
def Term.cells (t : Term) : List V := [V.i t.c, V.i t.x]
def vTerms (l : List Term) : V := .view 2 (l.map Term.cells)
def Var.cells (v : Var) : List V := [.str v.name, V.i v.lo, V.i v.hi]
def vVars (l : List Var) : V := .view 3 (l.map Var.cells)
def Con.cells (c : Con) : List V := [V.i c.kind, V.i c.op, vTerms c.terms, V.i c.k, V.i c.v, V.i c.x, V.i c.y, vInts c.xs, vInts c.table, vIntss c.rows]
def vCons (l : List Con) : V := .view 10 (l.map Con.cells)
def Model.cells (m : Model) : List V := [vVars m.vars, vCons m.cons, .bool m.hasGoal, vTerms m.goal]

def I64 (n : Int) : Prop := -9223372036854775808 ≤ n ∧ n ≤ 9223372036854775807
def okInts (l : List Int) : Prop := l.length ≤ maxLen ∧ ∀ n ∈ l, I64 n
def okTerm (t : Term) : Prop := I64 t.c ∧ I64 t.x
def okVar (v : Var) : Prop := v.name.size ≤ maxLen ∧ I64 v.lo ∧ I64 v.hi
def okTerms (l : List Term) : Prop := l.length ≤ maxLen ∧ ∀ t ∈ l, okTerm t
def okCon (c : Con) : Prop := I64 c.kind ∧ I64 c.op ∧ okTerms c.terms ∧ I64 c.k ∧ I64 c.v ∧ I64 c.x ∧ I64 c.y ∧ okInts c.xs ∧ okInts c.table ∧ c.rows.length ≤ maxLen ∧ ∀ r ∈ c.rows, okInts r
def okModel (m : Model) : Prop := (m.vars.length ≤ maxLen ∧ ∀ v ∈ m.vars, okVar v) ∧ (m.cons.length ≤ maxLen ∧ ∀ c ∈ m.cons, okCon c) ∧ okTerms m.goal

/-- The types that the readings below speak of. -/
structure MTypes (P : Program) (tInt tBool tStr tInts tIntss tTerm tTerms tVar tVars tCon tCons tModel : TypeId) : Prop where
  bytes : 8 ≤ P.bytesOf tInt ∧ 8 ≤ P.bytesOf tInts ∧ 8 ≤ P.bytesOf tTerm ∧ 8 ≤ P.bytesOf tVar ∧ 8 ≤ P.bytesOf tCon
  int : P.underlying tInt = some (.int .i64) ∧ P.cellsOf tInt = 1
  bool : P.underlying tBool = some .bool ∧ P.cellsOf tBool = 1
  str : P.underlying tStr = some .string ∧ P.cellsOf tStr = 1
  ints : P.underlying tInts = some (.slice tInt) ∧ P.cellsOf tInts = 1
  intss : P.underlying tIntss = some (.slice tInts) ∧ P.cellsOf tIntss = 1
  term : ∃ fs, P.underlying tTerm = some (.struct fs) ∧ P.cellsOf tTerm = 2 ∧ fs.toList.map (fun f => (f.type, f.offset)) = [(tInt, 0), (tInt, 1)]
  terms : P.underlying tTerms = some (.slice tTerm) ∧ P.cellsOf tTerms = 1
  var : ∃ fs, P.underlying tVar = some (.struct fs) ∧ P.cellsOf tVar = 3 ∧ fs.toList.map (fun f => (f.type, f.offset)) = [(tStr, 0), (tInt, 1), (tInt, 2)]
  vars : P.underlying tVars = some (.slice tVar) ∧ P.cellsOf tVars = 1
  con : ∃ fs, P.underlying tCon = some (.struct fs) ∧ P.cellsOf tCon = 10 ∧ fs.toList.map (fun f => (f.type, f.offset)) = [(tInt, 0), (tInt, 1), (tTerms, 2), (tInt, 3), (tInt, 4), (tInt, 5), (tInt, 6), (tInts, 7), (tInts, 8), (tIntss, 9)]
  cons : P.underlying tCons = some (.slice tCon) ∧ P.cellsOf tCons = 1
  model : ∃ fs, P.underlying tModel = some (.struct fs) ∧ P.cellsOf tModel = 4 ∧ fs.toList.map (fun f => (f.type, f.offset)) = [(tVars, 0), (tCons, 1), (tBool, 2), (tTerms, 3)]

def fl (t : TypeId) (o : Nat) : Field := { (default : Field) with type := t, offset := o }

/-- So long is what is read, at most. -/
def maxS : Nat := 17592186044416
def zInts (l : List Int) : Prop := okInts l ∧ l.length ≤ maxS
def zTerms (l : List Term) : Prop := okTerms l ∧ l.length ≤ maxS
def zVar (v : Var) : Prop := okVar v ∧ v.name.size ≤ reachBytes
def zCon (c : Con) : Prop := okCon c ∧ c.terms.length ≤ maxS ∧ c.xs.length ≤ maxS ∧ c.table.length ≤ maxS ∧ c.rows.length ≤ maxS ∧ ∀ r ∈ c.rows, r.length ≤ maxS
def zModel (m : Model) : Prop := okModel m ∧ m.vars.length ≤ maxS ∧ m.cons.length ≤ maxS ∧ m.goal.length ≤ maxS ∧ (∀ v ∈ m.vars, v.name.size ≤ reachBytes) ∧ ∀ c ∈ m.cons, zCon c
theorem maxS_of {n b : Nat} (h : n * b ≤ reachBytes) (hb : 8 ≤ b) : n ≤ maxS := by
  have h1 : n * 8 ≤ n * b := Nat.mul_le_mul_left _ hb
  unfold reachBytes at h
  unfold maxS
  omega

theorem RdF.of_map {P : Program} {fs : List Field} {k n : Nat} {α : Type} {g : α → List V} {ok : α → Prop} (h : RdF P fs k n g ok) {gs : List Field} (he : gs.map (fun f => (f.type, f.offset)) = fs.map (fun f => (f.type, f.offset))) : RdF P gs k n g ok := by
  intro H enc w fuel cs xs hx hwt
  have ht : gs.map (·.type) = fs.map (·.type) := by have := congrArg (List.map Prod.fst) he; simpa [Function.comp_def] using this
  rw [ht] at hwt
  refine h H enc w fuel cs xs ?_ hwt
  have : ∀ (l : List Field), l.mapM (fun fd => DataW.trod enc P w 0 (fun _ => true) true fuel fd.type ((cs.drop fd.offset).take (P.cellsOf fd.type))) = (l.map fun f => (f.type, f.offset)).mapM (fun q => DataW.trod enc P w 0 (fun _ => true) true fuel q.1 ((cs.drop q.2).take (P.cellsOf q.1))) := by
    intro l
    induction l with
    | nil => rfl
    | cons a l ih => rw [List.map_cons, List.mapM_cons, List.mapM_cons, ih]
  rw [this] at hx ⊢
  rw [← he]; exact hx

section
variable {P : Program} {tInt tBool tStr tInts tIntss tTerm tTerms tVar tVars tCon tCons tModel : TypeId} (M : MTypes P tInt tBool tStr tInts tIntss tTerm tTerms tVar tVars tCon tCons tModel)
include M

theorem MTypes.rdInt : Rd P tInt 1 (fun n : Int => [V.i n]) I64 :=
  (Rd.int M.int.1 M.int.2).map fun n h => ⟨n, by
    have : (decide (IntKind.i64.min ≤ n) && decide (n ≤ IntKind.i64.max)) = true := h
    simp only [Bool.and_eq_true, decide_eq_true_eq] at this
    exact ⟨this.1, this.2⟩, rfl⟩

theorem MTypes.rdInts : Rd P tInts 1 (fun l : List Int => [vInts l]) zInts :=
  (Rd.slice M.ints.1 M.ints.2 (by omega) M.rdInt).map fun l h => ⟨l, ⟨⟨h.1, h.2.2⟩, maxS_of h.2.1 M.bytes.1⟩, rfl⟩

theorem MTypes.rdIntss : Rd P tIntss 1 (fun l : List (List Int) => [vIntss l]) (fun l => l.length ≤ maxLen ∧ l.length ≤ maxS ∧ ∀ r ∈ l, zInts r) :=
  (Rd.slice M.intss.1 M.intss.2 (by omega) M.rdInts).map fun l h => ⟨l, ⟨h.1, maxS_of h.2.1 M.bytes.2.1, h.2.2⟩, rfl⟩

theorem MTypes.rdTerm : Rd P tTerm 2 Term.cells okTerm := by
  obtain ⟨fs, h1, h2, h3⟩ := M.term
  refine (Rd.struct h1 h2 (RdF.of_map (fs := [fl tInt 0, fl tInt 1]) (.cons rfl M.rdInt (.cons rfl M.rdInt .nil)) h3)).map fun x h => ?_
  exact ⟨⟨x.1, x.2.1⟩, ⟨h.1, h.2.1⟩, rfl⟩

theorem MTypes.rdTerms : Rd P tTerms 1 (fun l : List Term => [vTerms l]) zTerms :=
  (Rd.slice M.terms.1 M.terms.2 (by omega) M.rdTerm).map fun l h => ⟨l, ⟨⟨h.1, h.2.2⟩, maxS_of h.2.1 M.bytes.2.2.1⟩, rfl⟩

theorem MTypes.rdVar : Rd P tVar 3 Var.cells zVar := by
  obtain ⟨fs, h1, h2, h3⟩ := M.var
  refine (Rd.struct h1 h2 (RdF.of_map (fs := [fl tStr 0, fl tInt 1, fl tInt 2]) (.cons rfl (Rd.str M.str.1 M.str.2) (.cons rfl M.rdInt (.cons rfl M.rdInt .nil))) h3)).map fun x h => ?_
  exact ⟨⟨x.1, x.2.1, x.2.2.1⟩, ⟨⟨h.1.1, h.2.1, h.2.2.1⟩, h.1.2⟩, rfl⟩

theorem MTypes.rdCon : Rd P tCon 10 Con.cells zCon := by
  obtain ⟨fs, h1, h2, h3⟩ := M.con
  refine (Rd.struct h1 h2 (RdF.of_map (fs := [fl tInt 0, fl tInt 1, fl tTerms 2, fl tInt 3, fl tInt 4, fl tInt 5, fl tInt 6, fl tInts 7, fl tInts 8, fl tIntss 9])
    (.cons rfl M.rdInt (.cons rfl M.rdInt (.cons rfl M.rdTerms (.cons rfl M.rdInt (.cons rfl M.rdInt (.cons rfl M.rdInt (.cons rfl M.rdInt (.cons rfl M.rdInts (.cons rfl M.rdInts (.cons rfl M.rdIntss .nil)))))))))) h3)).map fun x h => ?_
  obtain ⟨a1, a2, a3, a4, a5, a6, a7, a8, a9, a10, _⟩ := h
  exact ⟨⟨x.1, x.2.1, x.2.2.1, x.2.2.2.1, x.2.2.2.2.1, x.2.2.2.2.2.1, x.2.2.2.2.2.2.1, x.2.2.2.2.2.2.2.1, x.2.2.2.2.2.2.2.2.1, x.2.2.2.2.2.2.2.2.2.1⟩, ⟨⟨a1, a2, a3.1, a4, a5, a6, a7, a8.1, a9.1, a10.1, fun r hr => (a10.2.2 r hr).1⟩, a3.2, a8.2, a9.2, a10.2.1, fun r hr => (a10.2.2 r hr).2⟩, rfl⟩

theorem MTypes.rdModel : Rd P tModel 4 Model.cells zModel := by
  obtain ⟨fs, h1, h2, h3⟩ := M.model
  refine (Rd.struct h1 h2 (RdF.of_map (fs := [fl tVars 0, fl tCons 1, fl tBool 2, fl tTerms 3])
    (.cons rfl (Rd.slice M.vars.1 M.vars.2 (by omega) M.rdVar) (.cons rfl (Rd.slice M.cons.1 M.cons.2 (by omega) M.rdCon) (.cons rfl (Rd.bool M.bool.1 M.bool.2) (.cons rfl M.rdTerms .nil)))) h3)).map fun x h => ?_
  obtain ⟨a1, a2, a3, a4, _⟩ := h
  exact ⟨⟨x.1, x.2.1, x.2.2.1, x.2.2.2.1⟩, ⟨⟨⟨a1.1, fun v hv => (a1.2.2 v hv).1⟩, ⟨a2.1, fun c hc => (a2.2.2 c hc).1⟩, a4.1⟩, maxS_of a1.2.1 M.bytes.2.2.2.1, maxS_of a2.2.1 M.bytes.2.2.2.2, a4.2, fun v hv => (a1.2.2 v hv).2, fun c hc => a2.2.2 c hc⟩, rfl⟩

end
end Go.Abs


/- What the functions of the package model compute, as Lean functions. -/
namespace Go.Abs

structure Needs where
  terms : Bool
  xs : Bool
  table : Bool
  rows : Bool
  x : Bool
  y : Bool
  k : Bool
  op : Bool
  v : Bool
  deriving DecidableEq

/-- A kind's needs, as they lie in memory. -/
def Needs.cells (n : Needs) (f : FuncId) : List V := [.bool n.terms, .bool n.xs, .bool n.table, .bool n.rows, .bool n.x, .bool n.y, .bool n.k, .bool n.op, .bool n.v, .fn (.func f) [] []]

def needs (k : Int) : Option Needs :=
  if k = 1 then some ⟨true, false, false, false, false, false, true, true, false⟩
  else if k = 2 then some ⟨false, false, false, false, true, true, true, false, false⟩
  else if k = 3 then some ⟨false, true, false, false, false, false, false, false, false⟩
  else if k = 4 then some ⟨false, false, true, false, true, true, false, false, false⟩
  else if k = 5 then some ⟨false, true, false, false, false, true, false, false, false⟩
  else if k = 6 then some ⟨false, true, false, false, false, true, false, false, false⟩
  else if k = 7 then some ⟨true, false, false, false, true, false, true, false, false⟩
  else if k = 8 then some ⟨false, true, false, true, false, false, false, false, false⟩
  else if k = 9 then some ⟨false, true, false, false, false, false, true, true, true⟩
  else none

def withinB (n most : Int) : Bool := decide (-most ≤ n) && decide (n ≤ most)
def greatB (l : List Int) : Bool := l.any fun t => !withinB t 1000000000
def countsB (there : Bool) (n : Nat) : Bool := !there || (decide (1 ≤ n) && decide (n ≤ 64))
def badVarB (vars : Int) (l : List Term) : Bool := l.any fun t => decide (t.x < 0) || decide (vars ≤ t.x)
def badCoefB (l : List Term) : Bool := l.any fun t => decide (t.c = 0) || !withinB t.c 1000000
def noB (vars x : Int) : Bool := decide (x < 0) || decide (vars ≤ x)
def fieldB (c : Con) (n : Needs) : Bool :=
  (!n.op && decide (c.op ≠ 0)) || (!n.k && decide (c.k ≠ 0)) || (!n.v && decide (c.v ≠ 0)) || (!n.x && decide (c.x ≠ 0)) || (!n.y && decide (c.y ≠ 0)) ||
  (!n.terms && decide (0 < c.terms.length)) || (!n.xs && decide (0 < c.xs.length)) || (!n.table && decide (0 < c.table.length)) || (!n.rows && decide (0 < c.rows.length))
def wideB (c : Con) (n : Needs) : Bool :=
  n.rows && (decide (8 < c.xs.length) || !countsB true c.rows.length || c.rows.any fun r => decide (r.length ≠ c.xs.length))
def conN (c : Con) (vars : Int) (n : Needs) : Int :=
  if n.op && (decide (c.op < 1) || decide (3 < c.op)) then 43
  else if fieldB c n then 48
  else if !countsB n.terms c.terms.length || !countsB n.xs c.xs.length || !countsB n.table c.table.length || wideB c n then 47
  else if badVarB vars c.terms || (n.x && noB vars c.x) || (n.y && noB vars c.y) || c.xs.any (noB vars) then 44
  else if badCoefB c.terms then 45
  else if !withinB c.k 1000000000 || !withinB c.v 1000000000 || greatB c.table || c.rows.any greatB then 46
  else 0
def conB (c : Con) (vars : Int) : Int :=
  match needs c.kind with
  | none => 43
  | some n => conN c vars n

def letterB (r : Nat) : Bool := (decide (97 ≤ r) && decide (r ≤ 122)) || (decide (65 ≤ r) && decide (r ≤ 90)) || decide (r = 95)
def nameFrom (s : ByteArray) : Nat → Nat → Bool
  | 0, _ => true
  | f + 1, pos => if pos < s.size then
      (if !letterB (Utf8.decode s pos).1 && (decide (pos = 0) || decide ((Utf8.decode s pos).1 < 48) || decide (57 < (Utf8.decode s pos).1)) then false else nameFrom s f (pos + (Utf8.decode s pos).2))
    else true
def nameB (s : ByteArray) : Bool := nameFrom s (s.size + 1) 0 && decide (1 ≤ s.size) && decide (s.size ≤ 16)

def varB (l : List Var) (i : Nat) (v : Var) : Int :=
  if !nameB v.name || (l.take i).any fun w => decide (w.name = v.name) then 41
  else if !withinB v.lo 1000000000 || !withinB v.hi 1000000000 || decide (v.hi < v.lo) || decide (64 ≤ v.hi - v.lo) then 42
  else 0

def goalB (m : Model) : Int :=
  if !m.hasGoal && decide (0 < m.goal.length) then 48
  else if !countsB m.hasGoal m.goal.length then 47
  else if badVarB m.vars.length m.goal then 44
  else if badCoefB m.goal then 45
  else 0

/-- The first place of which something else than 0 is told. -/
def firstBad {α : Type} (f : Nat → α → Int) : Nat → List α → Option (Nat × Int)
  | _, [] => none
  | i, x :: l => if f i x = 0 then firstBad f (i + 1) l else some (i, f i x)

def checkB (m : Model) : Int × Int :=
  if m.vars.length = 0 ∨ 32 < m.vars.length then (0, 40)
  else match firstBad (varB m.vars) 0 m.vars with
    | some (i, e) => ((i : Int), e)
    | none => if 64 < m.cons.length then ((m.vars.length : Int), 49)
      else match firstBad (fun _ c => conB c m.vars.length) 0 m.cons with
        | some (i, e) => ((m.vars.length : Int) + i, e)
        | none => if goalB m = 0 then (0, 0) else ((m.vars.length : Int) + m.cons.length, goalB m)

def rightB (m : Model) : Bool := decide ((checkB m).2 = 0)

end Go.Abs

/- Worth, Floor, Ceil: plain laws. -/
namespace Go.Abs

theorem firstBad_none {α : Type} {f : Nat → α → Int} : ∀ {l : List α} {i : Nat}, firstBad f i l = none → ∀ (j : Nat) (x : α), l[j]? = some x → f (i + j) x = 0 := by
  intro l
  induction l with
  | nil => intro i _ j x h; simp at h
  | cons y l ih =>
    intro i h j x hj
    simp only [firstBad] at h
    split at h
    · next h0 =>
      cases j with
      | zero => simp at hj; subst hj; simpa using h0
      | succ j =>
        have := ih h j x (by simpa using hj)
        rw [← this]; congr 1; omega
    · cases h

theorem firstBad_some {α : Type} {f : Nat → α → Int} : ∀ {l : List α} {i : Nat} {p : Nat × Int}, firstBad f i l = some p → p.2 ≠ 0 := by
  intro l
  induction l with
  | nil => intro i p h; simp [firstBad] at h
  | cons y l ih =>
    intro i p h
    simp only [firstBad] at h
    split at h
    · exact ih h
    · next h0 => cases h; exact h0

structure Right (m : Model) : Prop where
  nv : 1 ≤ m.vars.length ∧ m.vars.length ≤ 32
  nc : m.cons.length ≤ 64
  var : ∀ (i : Nat) (v : Var), m.vars[i]? = some v → varB m.vars i v = 0
  con : ∀ c ∈ m.cons, conB c m.vars.length = 0
  goal : goalB m = 0

theorem right_iff {m : Model} : rightB m = true ↔ Right m := by
  unfold rightB checkB
  simp only [decide_eq_true_eq]
  constructor
  · intro h
    split at h
    · simp at h
    · next h1 =>
      split at h
      · next p i e hp => exact absurd h (firstBad_some hp)
      · next hv =>
        split at h
        · simp at h
        · next h2 =>
          split at h
          · next p i e hp => exact absurd h (firstBad_some hp)
          · next hc =>
            split at h
            · next hg =>
              refine ⟨by omega, by omega, fun i v hi => ?_, fun c hc' => ?_, hg⟩
              · have := firstBad_none hv i v hi; simpa using this
              · obtain ⟨j, hj⟩ := List.getElem?_of_mem hc'
                have := firstBad_none hc j c hj; simpa using this
            · next hg => exact absurd h hg
  · intro h
    rw [if_neg (by have := h.nv; omega)]
    have key : ∀ {α : Type} (f : Nat → α → Int) (l : List α) (i : Nat), (∀ (j : Nat) (x : α), l[j]? = some x → f (i + j) x = 0) → firstBad f i l = none := by
      intro α f l
      induction l with
      | nil => intro i _; rfl
      | cons x l ih =>
        intro i h
        simp only [firstBad]
        rw [if_pos (by simpa using h 0 x rfl)]
        refine ih _ fun j y hj => ?_
        have := h (j + 1) y (by simpa using hj)
        rw [← this]; congr 1; omega
    rw [key _ m.vars 0 fun j x hj => by rw [Nat.zero_add]; exact h.var j x hj]
    simp only
    rw [if_neg (by have := h.nc; omega), key _ m.cons 0 fun j x hj => h.con x (List.mem_of_getElem? hj)]
    simp [h.goal]

structure VarOk (v : Var) : Prop where
  lo : -1000000000 ≤ v.lo ∧ v.lo ≤ 1000000000
  hi : -1000000000 ≤ v.hi ∧ v.hi ≤ 1000000000
  le : v.lo ≤ v.hi
  dom : v.hi - v.lo < 64

theorem VarOk.of {l : List Var} {i : Nat} {v : Var} (h : varB l i v = 0) : VarOk v := by
  unfold varB at h
  split at h
  · cases h
  · split at h
    · cases h
    · next h2 =>
      simp only [withinB, Bool.or_eq_true, Bool.not_eq_true', Bool.and_eq_false_iff, decide_eq_true_eq, decide_eq_false_iff_not, not_or, Bool.not_eq_false] at h2
      constructor <;> omega

structure TermOk (vars : Nat) (t : Term) : Prop where
  x : 0 ≤ t.x ∧ t.x < vars
  c : -1000000 ≤ t.c ∧ t.c ≤ 1000000 ∧ t.c ≠ 0

theorem TermOk.of {vars : Nat} {l : List Term} (h1 : badVarB vars l = false) (h2 : badCoefB l = false) : ∀ t ∈ l, TermOk vars t := by
  intro t ht
  unfold badVarB at h1
  unfold badCoefB at h2
  rw [List.any_eq_false] at h1 h2
  have h1 := h1 t ht
  have h2 := h2 t ht
  simp only [withinB, Bool.or_eq_true, Bool.not_eq_true', Bool.and_eq_false_iff, decide_eq_true_eq, decide_eq_false_iff_not, not_or, Bool.not_eq_false] at h1 h2
  constructor <;> omega

theorem Right.terms {m : Model} (h : Right m) : (∀ t ∈ m.goal, TermOk m.vars.length t) ∧ m.goal.length ≤ 64 := by
  have hg := h.goal
  unfold goalB at hg
  split at hg
  · cases hg
  · next h1 =>
    split at hg
    · cases hg
    · next h2 =>
      split at hg
      · cases hg
      · next h3 =>
        split at hg
        · cases hg
        · next h4 =>
          refine ⟨TermOk.of (by simpa using h3) (by simpa using h4), ?_⟩
          simp [countsB] at h1 h2
          cases hh : m.hasGoal
          · simp [h1 hh]
          · have := h2 hh
            omega

/-- Values within the bounds. -/
def Within (m : Model) (l : List Int) : Prop := l.length = m.vars.length ∧ ∀ (i : Nat) (v : Var), m.vars[i]? = some v → v.lo ≤ l.getD i 0 ∧ l.getD i 0 ≤ v.hi

theorem Within.great {m : Model} (h : Right m) {l : List Int} (hw : Within m l) : greatB l = false := by
  unfold greatB
  rw [List.any_eq_false]
  intro x hx
  obtain ⟨i, hi⟩ := List.getElem?_of_mem hx
  have hlt : i < m.vars.length := by rw [← hw.1]; exact (List.getElem?_eq_some_iff.1 hi).1
  have hv := List.getElem?_eq_getElem hlt
  have h1 := hw.2 i _ hv
  have h2 := VarOk.of (h.var i _ hv)
  have h3 : l.getD i 0 = x := by simp [List.getD, hi]
  rw [h3] at h1
  have := h2.lo; have := h2.hi
  simp [withinB]
  omega

end Go.Abs

namespace Go.Abs.G
set_option linter.unusedVariables false
attribute [local simp] I.vc sub merge place

theorem wrap32 {n : Int} (h0 : 0 ≤ n) (h1 : n < 4294967296) : IntKind.u32.wrap n = n := by
  simp [IntKind.wrap, IntKind.bits, IntKind.signed]
  omega
theorem bits32 : IntKind.u32.bits = 32 := rfl
theorem fdivN (a j : Nat) : ((a : Int).fdiv (2 ^ j)) = ((a / 2 ^ j : Nat) : Int) := by
  rw [Int.fdiv_eq_ediv_of_nonneg _ (Int.pow_nonneg (by decide))]
  simp

theorem bit32 {a j : Nat} (ha : a < 4294967296) (hj : j < 32) :
    (IntKind.u32.wrap ↑(BitVec.ofInt 32 ((a : Int).fdiv (2 ^ min j 32)) &&& 1#32).toNat == 1) = a.testBit j := by
  rw [Nat.min_eq_left (by omega), fdivN]
  have h1 : a / 2 ^ j < 4294967296 := Nat.lt_of_le_of_lt (Nat.div_le_self _ _) ha
  rw [Nat.testBit_eq_decide_div_mod_eq]
  generalize a / 2 ^ j = q at *
  have h2 : (BitVec.ofInt 32 (q : Int) &&& 1#32).toNat = q % 2 := by
    rw [BitVec.toNat_and, BitVec.ofInt_natCast, BitVec.toNat_ofNat, BitVec.toNat_ofNat, Nat.mod_eq_of_lt (by omega : q < 2 ^ 32)]
    exact Nat.and_one_is_mod q
  rw [h2, wrap32 (by omega) (by omega)]
  rcases Nat.mod_two_eq_zero_or_one q with h | h <;> rw [h] <;> rfl

theorem one_shl : ∀ j, j < 32 → BitVec.ofInt 32 (IntKind.u32.wrap (2 ^ min j 32)) = 1#32 <<< j := by decide +kernel

def clr (a j : Nat) : Nat := (BitVec.ofNat 32 a &&& ~~~(1#32 <<< j)).toNat
def sett (a j : Nat) : Nat := (BitVec.ofNat 32 a ||| (1#32 <<< j)).toNat

theorem clr_lt (a j : Nat) : clr a j < 4294967296 := BitVec.isLt _
theorem sett_lt (a j : Nat) : sett a j < 4294967296 := BitVec.isLt _

theorem clr32 {a j : Nat} (hj : j < 32) : IntKind.u32.wrap ↑(BitVec.ofNat 32 a &&& ~~~BitVec.ofInt 32 (IntKind.u32.wrap (2 ^ min j 32))).toNat = (clr a j : Int) := by
  rw [one_shl j hj]
  exact wrap32 (Int.natCast_nonneg _) (by have := clr_lt a j; unfold clr at this; omega)
theorem sett32 {a j : Nat} (hj : j < 32) : IntKind.u32.wrap ↑(BitVec.ofNat 32 a ||| BitVec.ofInt 32 (IntKind.u32.wrap (2 ^ min j 32))).toNat = (sett a j : Int) := by
  rw [one_shl j hj]
  exact wrap32 (Int.natCast_nonneg _) (by have := sett_lt a j; unfold sett at this; omega)

theorem shl_bit (j i : Nat) (hj : j < 32) : (1#32 <<< j).getLsbD i = decide (i = j) := by
  rw [BitVec.getLsbD_shiftLeft]
  by_cases h : i = j
  · subst h; simp [hj]
  · by_cases h2 : i < j
    · simp [h2, h]
    · have : i - j ≠ 0 := by omega
      simp [h, BitVec.getLsbD_one, this]
theorem clr_bit {a j : Nat} (ha : a < 4294967296) (hj : j < 32) (i : Nat) : (clr a j).testBit i = (a.testBit i && !decide (i = j)) := by
  unfold clr
  rw [BitVec.testBit_toNat, BitVec.getLsbD_and, BitVec.getLsbD_not, shl_bit j i hj, BitVec.getLsbD_ofNat]
  by_cases h : i < 32
  · simp [h]
  · have : a.testBit i = false := Nat.testBit_lt_two_pow (Nat.lt_of_lt_of_le (show a < 2 ^ 32 from ha) (Nat.pow_le_pow_right (by omega) (by omega : 32 ≤ i)))
    simp [h, this]
theorem sett_bit {a j : Nat} (ha : a < 4294967296) (hj : j < 32) (i : Nat) : (sett a j).testBit i = (a.testBit i || decide (i = j)) := by
  unfold sett
  rw [BitVec.testBit_toNat, BitVec.getLsbD_or, shl_bit j i hj, BitVec.getLsbD_ofNat]
  by_cases h : i < 32
  · simp [h]
  · have : a.testBit i = false := Nat.testBit_lt_two_pow (Nat.lt_of_lt_of_le (show a < 2 ^ 32 from ha) (Nat.pow_le_pow_right (by omega) (by omega : 32 ≤ i)))
    simp [h, this]
end Go.Abs.G


namespace Go.Abs.G
open Go.Proofs
set_option linter.unusedVariables false
set_option linter.unusedSimpArgs false
attribute [local simp] I.vc sub merge place

structure Dom where
  from' : Int
  width : Nat
  a : Nat
  b : Nat

abbrev V.w (n : Nat) : V := .a (.int .u32 n)
def Dom.row (d : Dom) : List V := [V.i d.from', V.i d.width, V.w d.a, V.w d.b]
def Dom.has (d : Dom) (i : Nat) : Bool := if i < 32 then d.a.testBit i else d.b.testBit (i - 32)
structure Dom.ok (d : Dom) : Prop where
  f : -1000000000 ≤ d.from' ∧ d.from' ≤ 1000000000
  w : d.width ≤ 64
  a : d.a < 4294967296
  b : d.b < 4294967296

theorem has_spec {rows : List (List V)} {d : Dom} {x k : Nat} (hx : rows[x]? = some d.row) (hd : d.ok) (hk : k < 64) :
    DC Tryz.prog dom_set_has.id [.ptr 0 rows.length x 2, V.i k] [.mem false [] rows] (fun r H => r = .bool (d.has k) ∧ H = [.mem false [] rows]) := by
  obtain ⟨hlt, he⟩ := List.getElem?_eq_some_iff.1 hx
  refine DC.of dom_set_has.ok (by simp) ?_
  have ht : ((k : Int).tmod 32) = ((k % 32 : Nat) : Int) := by rw [Int.tmod_eq_emod_of_nonneg (by omega)]; rfl
  have hm : ((k : Int) % 32).toNat = k % 32 := by omega
  have hp : 0 ≤ (k : Int) % 32 := by omega
  by_cases h : k < 32
  · have h1 : IntKind.i64.wrap ((k : Int) / 32) = 0 := by rw [wrap64] <;> omega
    have h2 : k % 32 = k := by omega
    simp [ht, hm, hp, h2, dom_set_has.ir, dom_set_has.rs, h1, hx, he, hlt, Dom.row, Dom.has, h, bits32]
    exact bit32 hd.a h
  · have h1 : IntKind.i64.wrap ((k : Int) / 32) = 1 := by rw [wrap64] <;> omega
    have h2 : k % 32 = k - 32 := by omega
    have h3 : k - 32 < 32 := by omega
    simp [ht, hm, hp, h2, dom_set_has.ir, dom_set_has.rs, h1, hx, he, hlt, Dom.row, Dom.has, h, bits32]
    exact bit32 hd.b h3
end Go.Abs.G


namespace Go.Abs.G
open Go.Proofs
set_option linter.unusedVariables false
attribute [local simp] I.vc sub merge place
def tab : ByteArray := { data := #[0, 1, 1, 2, 1, 2, 2, 3, 1, 2, 2, 3, 2, 3, 3, 4, 1, 2, 2, 3, 2, 3, 3, 4, 2, 3, 3, 4, 3, 4, 4, 5, 1, 2, 2, 3, 2, 3, 3, 4, 2, 3, 3, 4, 3, 4, 4, 5, 2, 3, 3, 4, 3, 4, 4, 5, 3, 4, 4, 5, 4, 5, 5, 6, 1, 2, 2, 3, 2, 3, 3, 4, 2, 3, 3, 4, 3, 4, 4, 5, 2, 3, 3, 4, 3, 4, 4, 5, 3, 4, 4, 5, 4, 5, 5, 6, 2, 3, 3, 4, 3, 4, 4, 5, 3, 4, 4, 5, 4, 5, 5, 6, 3, 4, 4, 5, 4, 5, 5, 6, 4, 5, 5, 6, 5, 6, 6, 7, 1, 2, 2, 3, 2, 3, 3, 4, 2, 3, 3, 4, 3, 4, 4, 5, 2, 3, 3, 4, 3, 4, 4, 5, 3, 4, 4, 5, 4, 5, 5, 6, 2, 3, 3, 4, 3, 4, 4, 5, 3, 4, 4, 5, 4, 5, 5, 6, 3, 4, 4, 5, 4, 5, 5, 6, 4, 5, 5, 6, 5, 6, 6, 7, 2, 3, 3, 4, 3, 4, 4, 5, 3, 4, 4, 5, 4, 5, 5, 6, 3, 4, 4, 5, 4, 5, 5, 6, 4, 5, 5, 6, 5, 6, 6, 7, 3, 4, 4, 5, 4, 5, 5, 6, 4, 5, 5, 6, 5, 6, 6, 7, 4, 5, 5, 6, 5, 6, 6, 7, 5, 6, 6, 7, 6, 7, 7, 8] }
def onesIr (T : ByteArray) : C := .seq (.reg 0 [.o 0 (.lt (some 2) (.mov (.const (.int .i64 0)))),
    .g (.keep [0])]) (.seq (.reg 0 [.o 0 (.lt (some 3) (.mov (.tmp 0))),
    .o 1 (.lt (some 4) (.bin .shr (.tmp 3) (.const (.int .u64 24)))),
    .o 2 (.lt (some 5) (.ixStr (.const (.string T)) (.tmp 4))),
    .o 3 (.lt (some 6) (.mov (.tmp 0))),
    .o 4 (.lt (some 7) (.bin .shr (.tmp 6) (.const (.int .u64 16)))),
    .o 5 (.lt (some 8) (.bin .and (.tmp 7) (.const (.int .u32 255)))),
    .o 6 (.lt (some 9) (.ixStr (.const (.string T)) (.tmp 8))),
    .o 7 (.lt (some 10) (.bin .add (.tmp 5) (.tmp 9))),
    .o 8 (.lt (some 11) (.mov (.tmp 0))),
    .o 9 (.lt (some 12) (.bin .shr (.tmp 11) (.const (.int .u64 8)))),
    .o 10 (.lt (some 13) (.bin .and (.tmp 12) (.const (.int .u32 255)))),
    .o 11 (.lt (some 14) (.ixStr (.const (.string T)) (.tmp 13))),
    .o 12 (.lt (some 15) (.bin .add (.tmp 10) (.tmp 14))),
    .o 13 (.lt (some 16) (.mov (.tmp 0))),
    .o 14 (.lt (some 17) (.bin .and (.tmp 16) (.const (.int .u32 255)))),
    .o 15 (.lt (some 18) (.ixStr (.const (.string T)) (.tmp 17))),
    .o 16 (.lt (some 19) (.bin .add (.tmp 15) (.tmp 18))),
    .o 17 (.lt (some 20) (.conv .i64 (.tmp 19))),
    .o 18 (.lt (some 2) (.mov (.tmp 20))),
    .g (.keep [2])]) (.ret))
theorem ones_ir : math_bits_OnesCount32.ir = onesIr tab := rfl
end Go.Abs.G


namespace Go.Abs.G
open Go.Proofs
set_option linter.unusedVariables false
attribute [local simp] I.vc sub merge place

def pop (n : Nat) : Nat := (List.range 32).countP n.testBit

theorem tab_all : ∀ i, i < 256 → byteAt tab i = ((List.range 8).countP i.testBit : Nat) := by decide +kernel
theorem tab_size : tab.size = 256 := by decide +kernel
theorem tab_get {i : Nat} (h : i < 256) : byteAt tab i = (((List.range 8).countP i.testBit : Nat) : Int) := tab_all i h

theorem byte32 {q : Nat} (h : q < 4294967296) : IntKind.u32.wrap ↑(((q : Int) % 2 ^ IntKind.u32.bits).toNat &&& 255 % 2 ^ IntKind.u32.bits) = ((q % 256 : Nat) : Int) := by
  have h2 : ((q : Int) % 2 ^ IntKind.u32.bits).toNat = q := by rw [bits32]; omega
  have h3 : 255 % 2 ^ IntKind.u32.bits = 2 ^ 8 - 1 := by rw [bits32]
  rw [h2, h3, Nat.and_two_pow_sub_one_eq_mod, wrap32 (by omega) (by omega)]

theorem byte32' {q : Nat} (h : q < 4294967296) : IntKind.u32.wrap ↑(q % 2 ^ IntKind.u32.bits &&& 255 % 2 ^ IntKind.u32.bits) = ((q % 256 : Nat) : Int) := by
  rw [← byte32 h]
  have h2 : ((q : Int) % 2 ^ IntKind.u32.bits).toNat = q := by rw [bits32]; omega
  have h3 : q % 2 ^ IntKind.u32.bits = q := by rw [bits32]; omega
  rw [h2, h3]

theorem pop_part (n k : Nat) : (List.range 8).countP (n / 2 ^ k % 256).testBit = (List.range 8).countP fun j => n.testBit (k + j) := by
  refine List.countP_congr fun j hj => ?_
  have hj : j < 8 := by simpa using hj
  have : (256 : Nat) = 2 ^ 8 := rfl
  rw [this, Nat.testBit_mod_two_pow, Nat.testBit_div_two_pow]
  simp [hj, Nat.add_comm]

theorem pop_eq (n : Nat) : pop n = (List.range 8).countP (n % 256).testBit + (List.range 8).countP (n / 256 % 256).testBit + (List.range 8).countP (n / 65536 % 256).testBit + (List.range 8).countP (n / 16777216 % 256).testBit := by
  have e0 := pop_part n 0
  have e1 := pop_part n 8
  have e2 := pop_part n 16
  have e3 := pop_part n 24
  simp only [Nat.pow_zero, Nat.div_one] at e0
  have p1 : (2 : Nat) ^ 8 = 256 := rfl
  have p2 : (2 : Nat) ^ 16 = 65536 := rfl
  have p3 : (2 : Nat) ^ 24 = 16777216 := rfl
  rw [p1] at e1; rw [p2] at e2; rw [p3] at e3
  rw [e0, e1, e2, e3]
  simp only [pop, List.range, List.range.loop, List.countP_cons, List.countP_nil, Nat.zero_add, Nat.add_zero, Nat.reduceAdd]
  omega

theorem count_le (p : Nat → Bool) : (List.range 8).countP p ≤ 8 := by
  have := List.countP_le_length (p := p) (l := List.range 8)
  simpa using this

theorem wrap8 {n : Int} (h0 : 0 ≤ n) (h1 : n < 256) : IntKind.u8.wrap n = n := by
  simp [IntKind.wrap, IntKind.bits, IntKind.signed]
  omega

theorem ones_spec (n : Nat) (h : n < 4294967296) : Pf Tryz.prog math_bits_OnesCount32.id [V.w n] (V.i (pop n)) := by
  refine DC.of math_bits_OnesCount32.ok (by simp) ?_
  rw [ones_ir]
  have hT := tab_size
  have hg := fun i => @tab_get i
  generalize tab = T at hT hg
  have s1 : (n : Int).fdiv (2 ^ min 24 IntKind.u32.bits) = ((n / 16777216 : Nat) : Int) := fdivN n 24
  have s2 : (n : Int).fdiv (2 ^ min 16 IntKind.u32.bits) = ((n / 65536 : Nat) : Int) := fdivN n 16
  have s3 : (n : Int).fdiv (2 ^ min 8 IntKind.u32.bits) = ((n / 256 : Nat) : Int) := fdivN n 8
  have b2 := byte32 (q := n / 65536) (by omega)
  have b3 := byte32 (q := n / 256) (by omega)
  have b4 := byte32' (q := n) h
  have g1 := hg (n / 16777216) (by omega)
  have g2 := hg (n / 65536 % 256) (by omega)
  have g3 := hg (n / 256 % 256) (by omega)
  have g4 := hg (n % 256) (by omega)
  have c1 := count_le (n / 16777216).testBit
  have c2 := count_le (n / 65536 % 256).testBit
  have c3 := count_le (n / 256 % 256).testBit
  have c4 := count_le (n % 256).testBit
  have hp := pop_eq n
  have q1' : n / 16777216 % 256 = n / 16777216 := by omega
  rw [q1'] at hp
  have l1 : n / 16777216 < 256 := by omega
  have l2 : n / 65536 % 256 < 256 := by omega
  have l3 : n / 256 % 256 < 256 := by omega
  have l4 : n % 256 < 256 := by omega
  generalize n / 16777216 = k1 at *
  generalize n / 65536 % 256 = k2 at *
  generalize n / 256 % 256 = k3 at *
  generalize n % 256 = k4 at *
  generalize (List.range 8).countP k1.testBit = r1 at *
  generalize (List.range 8).countP k2.testBit = r2 at *
  generalize (List.range 8).countP k3.testBit = r3 at *
  generalize (List.range 8).countP k4.testBit = r4 at *
  simp only [s1, s2, s3, b2, b3, b4, onesIr, math_bits_OnesCount32.rs]
  simp [-Nat.reducePow, -Int.reducePow]
  simp only [s1, s2, s3, b2, b3, b4, hT, Int.toNat_natCast, g1, g2, g3, g4]
  refine ⟨⟨by omega, by omega⟩, ⟨by omega, by omega⟩, ⟨by omega, by omega⟩, ⟨by omega, by omega⟩, ?_⟩
  rw [wrap8 (n := (r1 : Int) + r2) (by omega) (by omega), wrap8 (n := (r1 : Int) + r2 + r3) (by omega) (by omega), wrap8 (n := (r1 : Int) + r2 + r3 + r4) (by omega) (by omega), wrap64 (by omega) (by omega), hp]
  omega
end Go.Abs.G


namespace Go.Abs.G
open Go.Proofs
set_option linter.unusedVariables false
set_option linter.unusedSimpArgs false
attribute [local simp] I.vc sub merge place

def Dom.drop (d : Dom) (k : Nat) : Dom := if k < 32 then { d with a := clr d.a k } else { d with b := clr d.b (k - 32) }
theorem drop_spec {rows : List (List V)} {d : Dom} {x k : Nat} (hx : rows[x]? = some d.row) (hd : d.ok) (hk : k < 64) :
    DC Tryz.prog dom_set_drop.id [.ptr 0 rows.length x 2, V.i k] [.mem false [] rows] (fun r H => r = .tup [] ∧ H = [.mem false [] (rows.set x (d.drop k).row)]) := by
  obtain ⟨hlt, he⟩ := List.getElem?_eq_some_iff.1 hx
  refine DC.of dom_set_drop.ok (by simp) ?_
  have ht : ((k : Int).tmod 32) = ((k % 32 : Nat) : Int) := by rw [Int.tmod_eq_emod_of_nonneg (by omega)]; rfl
  have hm : ((k : Int) % 32).toNat = k % 32 := by omega
  have hp : 0 ≤ (k : Int) % 32 := by omega
  by_cases h : k < 32
  · have h1 : IntKind.i64.wrap ((k : Int) / 32) = 0 := by rw [wrap64] <;> omega
    have h2 : k % 32 = k := by omega
    simp [ht, hm, hp, h2, dom_set_drop.ir, dom_set_drop.rs, h1, hx, he, hlt, Dom.row, Dom.drop, h, bits32]
    exact congrArg (fun n => rows.set x [V.i d.from', V.i ↑d.width, V.a (.int .u32 n), V.w d.b]) (clr32 h)
  · have h1 : IntKind.i64.wrap ((k : Int) / 32) = 1 := by rw [wrap64] <;> omega
    have h2 : k % 32 = k - 32 := by omega
    have h3 : k - 32 < 32 := by omega
    simp [ht, hm, hp, h2, dom_set_drop.ir, dom_set_drop.rs, h1, hx, he, hlt, Dom.row, Dom.drop, h, bits32]
    exact congrArg (fun n => rows.set x [V.i d.from', V.i ↑d.width, V.w d.a, V.a (.int .u32 n)]) (clr32 h3)
def goesB (kind v x : Int) : Bool := if kind = 1 then decide (x < v) else if kind = 2 then decide (v < x) else decide (kind = 3) && decide (x = v)
theorem goes_spec (kind x v y : Int) : Pf Tryz.prog dom_goes.id [.agg [V.i kind, V.i x, V.i v], V.i y] (.bool (goesB kind v y)) := by
  refine DC.of dom_goes.ok (by simp) ?_
  by_cases h1 : kind = 1
  · simp [dom_goes.ir, dom_goes.rs, h1, goesB]
  · by_cases h2 : kind = 2
    · simp [dom_goes.ir, dom_goes.rs, h1, h2, goesB]
    · by_cases h3 : kind = 3
      · simp [dom_goes.ir, dom_goes.rs, h1, h2, h3, goesB, Bool.beq_eq_decide_eq]
      · simp [dom_goes.ir, dom_goes.rs, h1, h2, h3, goesB]
end Go.Abs.G


/- Objects that own what their cells' slices lie in: taken apart, put together. -/
namespace Go.Abs
set_option linter.unusedVariables false

mutual
def Ce.ids : Ce → List Nat
  | .v x => x.ids
  | .n _ rows => Ce.idsR rows
def Ce.idsL : List Ce → List Nat
  | [] => []
  | x :: l => x.ids ++ Ce.idsL l
def Ce.idsR : List (List Ce) → List Nat
  | [] => []
  | r :: l => Ce.idsL r ++ Ce.idsR l
end

theorem Ce.idsL_mem {l : List Ce} {j k : Nat} {x : Ce} (h : l[j]? = some x) (hk : k ∈ x.ids) : k ∈ Ce.idsL l := by
  induction l generalizing j with
  | nil => simp at h
  | cons y l ih =>
    simp only [Ce.idsL, List.mem_append]
    cases j with
    | zero => simp at h; subst h; exact .inl hk
    | succ j => exact .inr (ih (by simpa using h))
theorem Ce.idsR_mem {l : List (List Ce)} {i k : Nat} {r : List Ce} (h : l[i]? = some r) (hk : k ∈ Ce.idsL r) : k ∈ Ce.idsR l := by
  induction l generalizing i with
  | nil => simp at h
  | cons y l ih =>
    simp only [Ce.idsR, List.mem_append]
    cases i with
    | zero => simp at h; subst h; exact .inl hk
    | succ i => exact .inr (ih (by simpa using h))

theorem only_sub {c : Cx} {refs refs' : List Nat} {v : Value} {x : V} (h : RV (c.only refs) v x) (hs : ∀ k ∈ x.ids, k ∈ refs') : RV (c.only refs') v x :=
  (h.onlyOf refs' hs).mono ⟨Nat.le_refl _, fun _ _ hn => ⟨rfl, hn⟩, fun k hl => ⟨hl.1, hl.2.2⟩, fun _ _ _ e => .inl e⟩

theorem TR.refs {c : Cx} {refs refs' : List Nat} {S : Nat → Prop} {u : Value} {x : Ce} (h : TR c refs S u x) (hs : ∀ k ∈ x.ids, k ∈ refs') : TR c refs' S u x := by
  induction h with
  | v h1 h => exact .v h1 (only_sub h fun k hk => hs k (by simpa only [Ce.ids] using hk))
  | nil => exact .nil
  | n had cs E g T hb hcap hsz hlen hg hr hT hS hd hd2 ih =>
    exact .n had cs E g T hb hcap hsz hlen hg (fun i row hi j x hj => ih i row hi j x hj fun k hk => hs k (by simp only [Ce.ids]; exact Ce.idsR_mem hi (Ce.idsL_mem hj hk))) hT hS hd hd2

theorem TR.inv {c : Cx} {refs : List Nat} {S : Nat → Prop} {ad : Addr} {n cap es : Nat} {rows : List (List Ce)} (h : TR c refs S (.slice (some ad) n cap) (.n es rows)) (hne : rows ≠ [] ∨ ∃ b, S b) :
    ∃ (b o : Nat) (cs : Array Value) (E : TypeId) (g : Nat → Nat → Value) (T : Nat → Nat → Nat → Prop), (0 < cap → ad = ⟨b, o, none⟩) ∧
      c.hp[b]? = some (.cells cs E (0, 0)) ∧ rows.length ≤ cap ∧ o + cap * es ≤ cs.size ∧ (∀ (i : Nat) (row : List Ce), rows[i]? = some row → row.length = es) ∧
      (∀ (i : Nat) (row : List Ce), rows[i]? = some row → ∀ (j : Nat) (x : Ce), row[j]? = some x → cs[o + i * es + j]? = some (g i j)) ∧
      (∀ (i : Nat) (row : List Ce), rows[i]? = some row → ∀ (j : Nat) (x : Ce), row[j]? = some x → TR c refs (T i j) (g i j) x) ∧
      (∀ i j k, T i j k → ∃ row x, rows[i]? = some row ∧ row[j]? = some x) ∧
      (∀ k, S k ↔ k = b ∨ ∃ i j, T i j k) ∧ (∀ i j, ¬ T i j b) ∧ (∀ i j i' j' k, T i j k → T i' j' k → i = i' ∧ j = j') := by
  cases h with
  | nil => exact (hne.elim (fun e => e rfl) fun ⟨_, e⟩ => e).elim
  | n had cs E g T hb hcap hsz hlen hg hr hT hS hd hd2 => exact ⟨_, _, cs, E, g, T, had, hb, hcap, hsz, hlen, hg, hr, hT, hS, hd, hd2⟩

theorem TR.vsub {c : Cx} {refs : List Nat} {S : Nat → Prop} {u : Value} {x : V} (h : TR c refs S u (.v x)) : ∀ b, ¬ S b := by
  cases h with
  | v h1 h => exact fun _ e => e

theorem TR.val {c : Cx} {refs : List Nat} {S : Nat → Prop} {u : Value} {x : V} (h : TR c refs S u (.v x)) : RV (c.only refs) u x := by
  cases h with
  | v h1 h => exact h

/-- From one heap to another, in the same memory. -/
def Step (xs : List V) (H H' : Heap) : Prop :=
  ∀ (w : World) (β : Nat → Hd) (F : Nat → Prop) (vs : Array Value), HOK w.heap H β F → RVs (cx w.heap H β F) vs xs → ∃ β', Adv F w H β w H' β'

theorem Step.refl (xs : List V) (H : Heap) : Step xs H H := fun w β F vs hk hr => ⟨β, hk, .refl _, .refl _ _⟩

theorem RVs.mono {c c' : Cx} {vs : Array Value} {xs : List V} (h : RVs c vs xs) (hc : c.le c') : RVs c' vs xs := ⟨h.1, fun i v x hv hx => (h.2 i v x hv hx).mono hc⟩

theorem Step.trans {xs : List V} {H H' H'' : Heap} (h : Step xs H H') (k : Step xs H' H'') : Step xs H H'' := fun w β F vs hk hr => by
  obtain ⟨β', a⟩ := h w β F vs hk hr
  obtain ⟨β'', b⟩ := k w β' F vs a.hok (hr.mono a.le)
  exact ⟨β'', a.trans b⟩

theorem DC.pre {P : Program} {f : FuncId} {xs : List V} {H H1 : Heap} {Q : V → Heap → Prop} (hs : Step xs H H1) (h : DC P f xs H1 Q) : DC P f xs H Q := fun w β F vs hk hr => by
  obtain ⟨β', a⟩ := hs w β F vs hk hr
  refine (h w β' F vs a.hok (hr.mono a.le)).mono fun e w' ⟨r, x, H', β2, h1, h2, h3, h4⟩ => ⟨r, x, H', β2, h1, a.trans h2, h3, h4⟩

theorem RVs.cons' {c : Cx} {v : Value} {x : V} {vs : Array Value} {xs : List V} (h : RV c v x) (hs : RVs c vs xs) : RVs c (#[v] ++ vs) (x :: xs) := by
  refine ⟨by simp [hs.1]; omega, fun i u y h1 h2 => ?_⟩
  cases i with
  | zero => simp [Array.getElem?_append] at h1 h2; subst h1; subst h2; exact h
  | succ i =>
    rw [Array.getElem?_append, if_neg (by simp)] at h1
    exact hs.2 i u y (by simpa using h1) (by simpa using h2)

theorem DC.post {P : Program} {f : FuncId} {xs : List V} {H : Heap} {Q Q' : V → Heap → Prop} (h : DC P f xs H Q) (hq : ∀ x H1, Q x H1 → ∃ H2, Step (x :: xs) H1 H2 ∧ Q' x H2) : DC P f xs H Q' := fun w β F vs hk hr =>
  (h w β F vs hk hr).mono fun e w' ⟨r, x, H', β2, h1, h2, h3, h4⟩ => by
    obtain ⟨H2, hs, hQ⟩ := hq x H' h4
    obtain ⟨β3, a⟩ := hs w' β2 F _ h2.hok (RVs.cons' h3 (hr.mono h2.le))
    exact ⟨r, x, H2, β3, h1, h2.trans a, h3.mono a.le, hQ⟩

abbrev Hd.ws (h : Hd) (S : Nat → Prop) : Hd := ⟨h.b, h.o, h.cap, h.es, h.lo, h.nil, h.tot, S⟩

/-- Rows without slices of their own. -/
def flatC (rows : List (List V)) : List (List Ce) := rows.map fun r => r.map Ce.v

section
variable {w : World} {β : Nat → Hd} {F : Nat → Prop} {H : Heap}

/-- An object told otherwise, at the same place. -/
theorem turn_at {id : Nat} {o o' : O} {S : Nat → Prop} (hk : HOK w.heap H β F) (hid : H[id]? = some o) (hlive : o' ≠ .res) (hown : ∀ b, ownsB (H.set id o') (upd β id ((β id).ws S)) id b → ownsB H β id b)
    (hhd : ∀ g', hdOf (H.set id o') (upd β id ((β id).ws S)) id = some g' → hdOf H β id = some g')
    (hro : (cx w.heap H β F).le (cx w.heap (H.set id o') (upd β id ((β id).ws S)) F) → RO (cx w.heap (H.set id o') (upd β id ((β id).ws S)) F) ((β id).ws S) o') : Adv F w H β w (H.set id o') (upd β id ((β id).ws S)) := by
  obtain ⟨h1, h2, h3⟩ := hk.turn (hp' := w.heap) (o' := o') (h' := ((β id).ws S)) hid (Nat.le_refl _) (fun _ _ _ => rfl)
    (fun b hb => .inl (hown b hb)) hlive (fun g' hg _ => .inl (hhd g' hg)) hro
  exact ⟨h1, h2, .refl _ _⟩

theorem flatC_get {rows : List (List V)} {i : Nat} {row : List Ce} (h : (flatC rows)[i]? = some row) : ∃ r, rows[i]? = some r ∧ row = r.map Ce.v := by
  simp only [flatC, List.getElem?_map, Option.map_eq_some_iff] at h
  obtain ⟨r, h1, h2⟩ := h
  exact ⟨r, h1, h2.symm⟩
theorem flatC_length (rows : List (List V)) : (flatC rows).length = rows.length := by simp [flatC]

theorem adv_toTree {id : Nat} {refs : List Nat} {rows : List (List V)} (hk : HOK w.heap H β F) (hid : H[id]? = some (.mem false refs rows)) (hlo : (β id).lo = 0) : ∃ β', Adv F w H β w (H.set id (.tree refs (flatC rows))) β' := by
  refine ⟨_, turn_at (S := noSub) hk hid (by simp) (fun b hb => ?_) (fun g' hg => ?_) fun hle => ?_⟩
  · unfold ownsB at hb ⊢
    rw [get_set hid, upd_same] at hb
    rw [hid]
    obtain ⟨h1, h2 | h2⟩ := hb
    · exact ⟨h1, h2⟩
    · exact h2.elim
  · unfold hdOf at hg ⊢
    rw [get_set hid, upd_same] at hg
    rw [hid]
    simp only [flatC_length] at hg ⊢
    exact hg
  · rcases hk.ro id _ hid with hr | ⟨q1, q2, q3, q4, q5, cs, E, fr, q6, q7, q8, q9⟩
    · exact .inl ⟨hr.1, by rw [hr.2.1]; rfl, hr.2.2⟩
    · obtain rfl := q7 rfl
      refine .inr ⟨q1, hlo, fun h => h, ?_, fun cs' E' fr' e => ?_⟩
      rotate_left
      · have e2 : w.heap[(β id).b]? = some (.cells cs' E' fr') := e
        have q6' : w.heap[(β id).b]? = some (.cells cs E (0, 0)) := q6
        rw [q6'] at e2
        cases e2
        exact q8
      have key : ∀ (i : Nat) (row : List Ce), (flatC rows)[i]? = some row → ∀ (j : Nat) (x : Ce), row[j]? = some x → ∃ y v, x = .v y ∧ cs[(β id).o + i * (β id).es + j]? = some v ∧ v.oneCell' = true ∧ RV ((cx w.heap H β F).only refs) v y := by
        intro i row hi j x hj
        obtain ⟨r, hr, rfl⟩ := flatC_get hi
        rw [List.getElem?_map, Option.map_eq_some_iff] at hj
        obtain ⟨y, hj, rfl⟩ := hj
        obtain ⟨v, e1, e2, e3⟩ := q9 i r hr (by omega) j y hj
        rw [hlo, Nat.sub_zero] at e1
        exact ⟨y, v, rfl, e1, e2, e3⟩
      have := TR.n (c := cx w.heap (H.set id (.tree refs (flatC rows))) (upd β id ((β id).ws noSub)) F) (refs := refs) (S := fun b => (β id).b = b ∨ noSub b) (ad := ⟨(β id).b, (β id).o, none⟩) (b := (β id).b) (o := (β id).o) (cap := (β id).cap) (es := (β id).es) (rows := flatC rows)
        (fun _ => rfl) cs E (fun i j => (cs[(β id).o + i * (β id).es + j]?).getD undef) (fun _ _ => noSub) q6 (by rw [flatC_length]; omega) q8 (fun i row hi => by
          obtain ⟨r, hr, rfl⟩ := flatC_get hi
          rw [List.length_map]; exact q4 i r hr) (fun i row hi j x hj => by
          obtain ⟨y, v, _, e1, _⟩ := key i row hi j x hj
          rw [e1]; rfl) (fun i row hi j x hj => by
          obtain ⟨y, v, rfl, e1, e2, e3⟩ := key i row hi j x hj
          rw [e1]; exact .v e2 (e3.mono (hle.only _))) (fun i j k h => h.elim) (fun k => ⟨fun h => h.elim (fun e => .inl e.symm) fun e => e.elim, fun h => h.elim (fun e => .inl e.symm) fun ⟨_, _, e⟩ => e.elim⟩) (fun i j h => h) fun i j i' j' k h => h.elim
      exact this

theorem adv_toMem {id : Nat} {refs : List Nat} {rows : List (List V)} (hk : HOK w.heap H β F) (hid : H[id]? = some (.tree refs (flatC rows))) : ∃ β', Adv F w H β w (H.set id (.mem false refs rows)) β' := by
  refine ⟨_, turn_at (S := noSub) hk hid (by simp) (fun b hb => ?_) (fun g' hg => ?_) fun hle => ?_⟩
  · unfold ownsB at hb ⊢
    rw [get_set hid, upd_same] at hb
    rw [hid]
    exact ⟨hb.1, .inl hb.2⟩
  · unfold hdOf at hg ⊢
    rw [get_set hid, upd_same] at hg
    rw [hid]
    simp only [flatC_length]
    exact hg
  · rcases hk.ro id _ hid with hr | ⟨q1, q2, q3, q4, q5⟩
    · exact .inl ⟨hr.1, by have := hr.2.1; simpa [flatC] using this, hr.2.2⟩
    · obtain ⟨b, o, cs, E, g, T, had, hb, hcap, hsz, hlen, hg, hr, hT, hS', hd, hd2⟩ := q4.inv (.inr ⟨_, .inl rfl⟩)
      have hbb : (β id).b = b := by
        rcases (hS' (β id).b).1 (.inl rfl) with e | ⟨i, j, e⟩
        · exact e
        · obtain ⟨row, x, hi, hj⟩ := hT _ _ _ e
          obtain ⟨r, h1, rfl⟩ := flatC_get hi
          rw [List.getElem?_map, Option.map_eq_some_iff] at hj
          obtain ⟨y, hj, rfl⟩ := hj
          have := hr _ _ hi j (.v y) (by rw [List.getElem?_map, hj]; rfl)
          exact ((this.vsub _) e).elim
      have hb' : (cx w.heap (H.set id (.mem false refs rows)) (upd β id ((β id).ws noSub)) F).hp[(β id).b]? = some (.cells cs E (0, 0)) := by rw [hbb]; exact hb
      have hcap' : rows.length - (β id).lo ≤ (β id).cap := by rw [flatC_length] at hcap; omega
      have hlo' : (β id).lo ≤ rows.length := by omega
      refine .inr ⟨q1, hlo', hcap', fun i row hi => ?_, fun e => absurd e (by decide), cs, E, (0, 0), hb', fun _ => rfl, q5 _ _ _ hb', fun i row hi _ j x hj => ?_⟩
      · have := hlen i (row.map Ce.v) (by simp [flatC, hi])
        rwa [List.length_map] at this
      · have hi' : (flatC rows)[i]? = some (row.map Ce.v) := by simp [flatC, hi]
        have hj' : (row.map Ce.v)[j]? = some (.v x) := by rw [List.getElem?_map, hj]; rfl
        have h1 := hg i _ hi' j _ hj'
        have h2 := hr i _ hi' j _ hj'
        have hlt : 0 < (β id).cap := by have := lt_of_get hi'; omega
        have ho : (β id).o = o := by have := had hlt; injection this
        refine ⟨g i j, by show cs[(β id).o + (i - (β id).lo) * (β id).es + j]? = _; rw [q2, ho, Nat.sub_zero]; exact h1, h2.one, ?_⟩
        exact h2.val.mono (hle.only _)
end
end Go.Abs

namespace Go.Abs
set_option linter.unusedVariables false

theorem TR.sup {c : Cx} {refs refs' : List Nat} {S : Nat → Prop} {u : Value} {x : Ce} (h : TR c refs S u x) (hs : ∀ k ∈ refs, k ∈ refs') : TR c refs' S u x := by
  induction h with
  | v h1 h => exact .v h1 (h.mono ⟨Nat.le_refl _, fun _ _ hn => ⟨rfl, hn⟩, fun k hl => ⟨hs _ hl.1, hl.2⟩, fun _ _ _ e => .inl e⟩)
  | nil => exact .nil
  | n had cs E g T hb hcap hsz hlen hg hr hT hS hd hd2 ih => exact .n had cs E g T hb hcap hsz hlen hg (fun i row hi j x hj => ih i row hi j x hj) hT hS hd hd2

theorem TR.congr {c : Cx} {refs : List Nat} {S S' : Nat → Prop} {u : Value} {x : Ce} (h : TR c refs S u x) (hs : ∀ k, S k ↔ S' k) : TR c refs S' u x := by
  have : S = S' := funext fun k => propext (hs k)
  exact this ▸ h

theorem TR.addr {c : Cx} {refs : List Nat} {S : Nat → Prop} {ad ad' : Addr} {n cap es : Nat} {rows : List (List Ce)} (h : TR c refs S (.slice (some ad) n cap) (.n es rows)) (ha : 0 < cap → ad' = ad) : TR c refs S (.slice (some ad') n cap) (.n es rows) := by
  cases h with
  | nil => exact .nil
  | n had cs E g T hb hcap hsz hlen hg hr hT hS hd hd2 => exact .n (fun hc => (ha hc).trans (had hc)) cs E g T hb hcap hsz hlen hg hr hT hS hd hd2

theorem TR.cell {c : Cx} {refs : List Nat} {S : Nat → Prop} {ad : Addr} {n cap es i j : Nat} {rows : List (List Ce)} {row : List Ce} {x : Ce} (h : TR c refs S (.slice (some ad) n cap) (.n es rows)) (hi : rows[i]? = some row) (hj : row[j]? = some x) :
    ∃ u Sx, TR c refs Sx u x ∧ (∀ k, Sx k → S k) ∧ (∀ b o, (0 < cap → ad = ⟨b, o, none⟩) → rows ≠ [] → ¬ Sx b ∧ S b) ∧ ∀ (c' : Cx) (refs' : List Nat), c'.hp = c.hp → (∀ S u x, TR c refs S u x → TR c' refs' S u x) → ∀ (y : Ce) (Sy : Nat → Prop), TR c' refs' Sy u y → (∀ k, Sy k → S k → Sx k) → TR c' refs' (fun k => (S k ∧ ¬ Sx k) ∨ Sy k) (.slice (some ad) n cap) (.n es (rows.set i (row.set j y))) := by
  have hn : n = rows.length := by cases h <;> rfl
  subst hn
  obtain ⟨b, o, cs, E, g, T, had, hb, hcap, hsz, hlen, hg, hr, hT, hS, hd, hd2⟩ := h.inv (.inl (by rintro rfl; simp at hi))
  refine ⟨g i j, T i j, hr i row hi j x hj, fun k hk => (hS k).2 (.inr ⟨i, j, hk⟩), fun b' o' h1 h2 => ?_, fun c' refs' hhp hup y Sy hy hdis => ?_⟩
  · have hc : 0 < cap := by cases rows with
      | nil => exact absurd rfl h2
      | cons => exact Nat.lt_of_lt_of_le (by simp) hcap
    have e := (h1 hc).symm.trans (had hc)
    injection e with e
    subst e
    exact ⟨hd i j, (hS _).2 (.inl rfl)⟩
  · have hl : (rows.set i (row.set j y)).length = rows.length := List.length_set
    rw [← hl]
    have key : ∀ i' row', (rows.set i (row.set j y))[i']? = some row' → ∀ j' x', row'[j']? = some x' → (i' = i ∧ j' = j ∧ x' = y) ∨ (¬ (i' = i ∧ j' = j) ∧ ∃ r0, rows[i']? = some r0 ∧ r0[j']? = some x') := by
      intro i' row' h1 j' x' h2
      by_cases hii : i' = i
      · subst hii
        rw [get_set hi] at h1
        cases h1
        by_cases hjj : j' = j
        · subst hjj
          rw [get_set hj] at h2
          cases h2
          exact .inl ⟨rfl, rfl, rfl⟩
        · rw [getElem?_set_ne' hjj] at h2
          exact .inr ⟨fun e => hjj e.2, row, hi, h2⟩
      · rw [getElem?_set_ne' hii] at h1
        exact .inr ⟨fun e => hii e.1, row', h1, h2⟩
    refine .n had cs E g (fun i' j' k => if i' = i ∧ j' = j then Sy k else T i' j' k) (hhp ▸ hb) (by omega) hsz (fun i' row' h1 => ?_) (fun i' row' h1 j' x' h2 => ?_) (fun i' row' h1 j' x' h2 => ?_) (fun i' j' k h1 => ?_) (fun k => ⟨fun h1 => ?_, fun h1 => ?_⟩) (fun i' j' h1 => ?_) fun i1 j1 i2 j2 k h1 h2 => ?_
    · by_cases hii : i' = i
      · subst hii
        rw [get_set hi] at h1
        cases h1
        rw [List.length_set]; exact hlen _ _ hi
      · rw [getElem?_set_ne' hii] at h1
        exact hlen _ _ h1
    · rcases key i' row' h1 j' x' h2 with ⟨rfl, rfl, rfl⟩ | ⟨_, r0, h3, h4⟩
      · exact hg _ _ hi _ _ hj
      · exact hg _ _ h3 _ _ h4
    · rcases key i' row' h1 j' x' h2 with ⟨rfl, rfl, rfl⟩ | ⟨h5, r0, h3, h4⟩
      · simpa using hy
      · have : (fun k => if i' = i ∧ j' = j then Sy k else T i' j' k) = T i' j' := by funext k; rw [if_neg h5]
        rw [this]
        exact hup _ _ _ (hr _ _ h3 _ _ h4)
    · by_cases hij : i' = i ∧ j' = j
      · obtain ⟨rfl, rfl⟩ := hij
        exact ⟨row.set j' y, y, get_set hi, get_set hj⟩
      · rw [if_neg hij] at h1
        obtain ⟨r0, x0, h2, h3⟩ := hT _ _ _ h1
        by_cases hii : i' = i
        · subst hii
          rw [hi] at h2; cases h2
          have hjj : j' ≠ j := fun e => hij ⟨rfl, e⟩
          exact ⟨_, x0, get_set hi, by rw [getElem?_set_ne' hjj]; exact h3⟩
        · exact ⟨r0, x0, by rw [getElem?_set_ne' hii]; exact h2, h3⟩
    · rcases h1 with ⟨h1, h2⟩ | h1
      · rcases (hS k).1 h1 with h3 | ⟨i', j', h3⟩
        · exact .inl h3
        · refine .inr ⟨i', j', ?_⟩
          have : ¬ (i' = i ∧ j' = j) := by rintro ⟨rfl, rfl⟩; exact h2 h3
          rw [if_neg this]; exact h3
      · exact .inr ⟨i, j, by rw [if_pos ⟨rfl, rfl⟩]; exact h1⟩
    · rcases h1 with rfl | ⟨i', j', h1⟩
      · exact .inl ⟨(hS _).2 (.inl rfl), hd _ _⟩
      · by_cases hij : i' = i ∧ j' = j
        · rw [if_pos hij] at h1; exact .inr h1
        · rw [if_neg hij] at h1
          exact .inl ⟨(hS _).2 (.inr ⟨_, _, h1⟩), fun e => hij (hd2 _ _ _ _ _ h1 e)⟩
    · by_cases hij : i' = i ∧ j' = j
      · rw [if_pos hij] at h1
        exact hd _ _ (hdis _ h1 ((hS _).2 (.inl rfl)))
      · rw [if_neg hij] at h1
        exact hd _ _ h1
    · by_cases h3 : i1 = i ∧ j1 = j <;> by_cases h4 : i2 = i ∧ j2 = j
      · exact ⟨h3.1.trans h4.1.symm, h3.2.trans h4.2.symm⟩
      · rw [if_pos h3] at h1; rw [if_neg h4] at h2
        exact absurd (hd2 _ _ _ _ _ h2 (hdis _ h1 ((hS _).2 (.inr ⟨_, _, h2⟩)))) h4
      · rw [if_neg h3] at h1; rw [if_pos h4] at h2
        exact absurd (hd2 _ _ _ _ _ h1 (hdis _ h2 ((hS _).2 (.inr ⟨_, _, h1⟩)))) h3
      · rw [if_neg h3] at h1; rw [if_neg h4] at h2
        exact hd2 _ _ _ _ _ h1 h2

/-- Objects told otherwise, in the same memory. -/
theorem HOK.rearr {hp : Array Obj} {H H' : Heap} {β β' : Nat → Hd} {F K : Nat → Prop} (hk : HOK hp H β F)
    (hsame : ∀ k, ¬ K k → H'[k]? = H[k]? ∧ β' k = β k) (hliv : ∀ k, K k → liveIn H k → liveIn H' k) (hhd : ∀ k g', K k → liveIn H k → hdOf H' β' k = some g' → hdOf H β k = some g')
    (hown : ∀ k b, K k → ownsB H' β' k b → ∃ k0, K k0 ∧ ownsB H β k0 b) (hone : ∀ k k' b, K k → K k' → ownsB H' β' k b → ownsB H' β' k' b → k = k')
    (hro : (cx hp H β F).le (cx hp H' β' F) → ∀ k o, K k → H'[k]? = some o → RO (cx hp H' β' F) (β' k) o) :
    HOK hp H' β' F ∧ (cx hp H β F).le (cx hp H' β' F) := by
  have hob : ∀ k b, ¬ K k → (ownsB H' β' k b ↔ ownsB H β k b) := fun k b hn => by unfold ownsB; rw [(hsame k hn).1, (hsame k hn).2]
  have hoo : ∀ b, owned H' β' b → owned H β b := by
    rintro b ⟨k, h⟩
    by_cases hK : K k
    · obtain ⟨k0, _, h0⟩ := hown k b hK h
      exact ⟨k0, h0⟩
    · exact ⟨k, (hob k b hK).1 h⟩
  have hle : (cx hp H β F).le (cx hp H' β' F) := by
    refine ⟨Nat.le_refl _, fun b hb hn => ⟨rfl, fun e => hn (e.imp (hoo b) id)⟩, fun k hl => ?_, fun k g' hl hg => ?_⟩
    · by_cases hK : K k
      · exact hliv k hK hl
      · obtain ⟨o, h1, h2⟩ := hl
        exact ⟨o, (hsame k hK).1.trans h1, h2⟩
    · by_cases hK : K k
      · exact .inl (hhd k g' hK hl hg)
      · refine .inl ?_
        have hg' : hdOf H' β' k = some g' := hg
        show hdOf H β k = some g'
        unfold hdOf at hg' ⊢
        rw [(hsame k hK).1, (hsame k hK).2] at hg'
        exact hg'
  refine ⟨⟨fun k o ho => ?_, fun k k' b h1 h2 => ?_, fun b hb => ⟨(hk.far b hb).1, fun e => (hk.far b hb).2 (hoo b e)⟩⟩, hle⟩
  · by_cases hK : K k
    · exact hro hle k o hK ho
    · rw [(hsame k hK).1] at ho
      rw [(hsame k hK).2]
      exact (hk.ro k o ho).mono hle rfl (fun hn e => hn (e.imp (hoo _) id)) fun _ _ _ _ _ _ => rfl
  · by_cases hK : K k <;> by_cases hK' : K k'
    · exact hone k k' b hK hK' h1 h2
    · exfalso
      obtain ⟨k0, h3, h4⟩ := hown k b hK h1
      have := hk.one _ _ _ h4 ((hob k' b hK').1 h2)
      exact hK' (this ▸ h3)
    · exfalso
      obtain ⟨k0, h3, h4⟩ := hown k' b hK' h2
      have := hk.one _ _ _ h4 ((hob k b hK).1 h1)
      exact hK (this ▸ h3)
    · exact hk.one _ _ _ ((hob k b hK).1 h1) ((hob k' b hK').1 h2)
end Go.Abs

namespace Go.Abs
set_option linter.unusedVariables false
section
variable {w : World} {β : Nat → Hd} {F : Nat → Prop} {H : Heap}

theorem live_set {H : Heap} {id k : Nat} {o : O} (ho : o ≠ .res) (h : liveIn H k) : liveIn (H.set id o) k := by
  obtain ⟨q, h1, h2⟩ := h
  by_cases hk : k = id
  · subst hk; exact ⟨o, get_set h1, ho⟩
  · exact ⟨q, by rw [getElem?_set_ne' hk]; exact h1, h2⟩

/-- What the cell's own slice and its object lie in. -/
theorem own_cell {id es k : Nat} {refs' refs : List Nat} {rows' : List (List Ce)} {u : Value} (hk : HOK w.heap H β F) (hid : H[id]? = some (.tree refs' rows')) (hl : rows'.length = k)
    (hu : RV ((cx w.heap H β F).only refs) u (.own id es 0 k k)) : TR (cx w.heap H β F) refs' (fun b => ownsB H β id b) u (.n es rows') := by
  have hd : hdOf H β id = some ((β id).wt k) := by unfold hdOf; rw [hid]; simp [hl]
  cases hu with
  | own hlive h =>
    obtain ⟨_, h2⟩ := h _ hd
    obtain ⟨_, hes, hs⟩ := h2 rfl
    have hob : ∀ b, ownsB H β id b ↔ (β id).nil = false ∧ ((β id).b = b ∨ (β id).sub b) := fun b => by unfold ownsB; rw [hid]
    have hes' : (β id).es = es := hes
    rcases hs with ⟨hn, ⟨ad, rfl⟩, hk0⟩ | ⟨hn, ad, rfl, _, had⟩
    · have hn' : (β id).nil = true := hn
      obtain rfl : rows' = [] := List.length_eq_zero_iff.1 (by omega)
      exact TR.nil.congr fun b => ⟨fun e => e.elim, fun e => by have := ((hob b).1 e).1; rw [hn'] at this; cases this⟩
    · have hn' : (β id).nil = false := hn
      rcases hk.ro id _ hid with hr | ⟨_, q2, _, q4, _⟩
      · rw [hr.1] at hn'; cases hn'
      · have hcap : ((β id).wt k).cap - (0 - ((β id).wt k).lo) = (β id).cap := by show (β id).cap - (0 - (β id).lo) = _; omega
        rw [hcap]
        rw [hes', hl] at q4
        refine (q4.addr fun hc => ?_).congr fun b => by rw [hob]; simp [hn']
        have := had (by show 0 - (β id).lo < (β id).cap; omega)
        rw [this]
        show (⟨(β id).b, (β id).o + (0 - (β id).lo) * (β id).es, none⟩ : Addr) = _
        simp

theorem adv_pack {id id' i j es k : Nat} {refs refs' : List Nat} {rows rows' : List (List Ce)} {row : List Ce} (hk : HOK w.heap H β F) (hid : H[id]? = some (.tree refs rows)) (hid' : H[id']? = some (.tree refs' rows')) (hne : id ≠ id')
    (hi : rows[i]? = some row) (hj : row[j]? = some (.v (.own id' es 0 k k))) (hlen : rows'.length = k) :
    ∃ β', Adv F w H β w ((H.set id' .dead).set id (.tree (refs ++ refs') (rows.set i (row.set j (.n es rows'))))) β' := by
  generalize hH' : (H.set id' .dead).set id (.tree (refs ++ refs') (rows.set i (row.set j (.n es rows')))) = H'
  have hid0 : (H.set id' O.dead)[id]? = some (.tree refs rows) := by rw [getElem?_set_ne' hne]; exact hid
  have e1 : H'[id]? = some (.tree (refs ++ refs') (rows.set i (row.set j (.n es rows')))) := by rw [← hH']; exact get_set hid0
  have e2 : H'[id']? = some .dead := by rw [← hH', getElem?_set_ne' (Ne.symm hne)]; exact get_set hid'
  have e3 : ∀ k, k ≠ id → k ≠ id' → H'[k]? = H[k]? := fun k h1 h2 => by rw [← hH', getElem?_set_ne' h1, getElem?_set_ne' h2]
  have hnn : (β id).nil = false ∧ (β id).lo = 0 ∧ ¬ (β id).sub (β id).b ∧ TR (cx w.heap H β F) refs (fun b => (β id).b = b ∨ (β id).sub b) (.slice (some ⟨(β id).b, (β id).o, none⟩) rows.length (β id).cap) (.n (β id).es rows) ∧ ∀ cs E fr, (cx w.heap H β F).hp[(β id).b]? = some (.cells cs E fr) → (β id).o + (β id).cap * (β id).es ≤ cs.size := by
    rcases hk.ro id _ hid with hr | hr
    · rw [hr.2.1] at hi; simp at hi
    · exact hr
  obtain ⟨q1, q2, q3, q4, q5⟩ := hnn
  obtain ⟨u, Sx, hx, hxs, hxb, hset⟩ := (q4.sup (refs' := refs ++ refs') fun k hk => List.mem_append.2 (.inl hk)).cell hi hj
  have hc := own_cell hk hid' hlen hx.val
  have ho1 : ∀ b, ownsB H β id b ↔ (β id).b = b ∨ (β id).sub b := fun b => by unfold ownsB; rw [hid]; simp [q1]
  have hsx := hx.vsub
  have hnew := hset _ _ rfl (fun _ _ _ h => h) (.n es rows') (ownsB H β id') (hc.sup fun k hk => List.mem_append.2 (.inr hk)) fun b h1 h2 => absurd (hk.one _ _ _ ((ho1 b).2 h2) h1) hne
  let β' := upd β id ((β id).ws fun b => (β id).sub b ∨ ownsB H β id' b)
  have ho2 : ∀ b, ownsB H' β' id b ↔ ((β id).b = b ∨ (β id).sub b) ∨ ownsB H β id' b := fun b => by
    unfold ownsB; rw [e1]
    simp only [β', upd_same, q1, true_and, or_assoc]
    unfold ownsB; exact Iff.rfl
  have hd2 : hdOf H' β' id = hdOf H β id := by
    unfold hdOf; rw [e1, hid]; simp only [β', upd_same, List.length_set]; rfl
  obtain ⟨h1, h2⟩ := hk.rearr (H' := H') (β' := β') (K := fun k => k = id ∨ k = id')
    (fun k hK => ⟨e3 k (fun e => hK (.inl e)) (fun e => hK (.inr e)), upd_ne β _ fun e => hK (.inl e)⟩)
    (fun k _ hl => by rw [← hH']; exact live_set (by simp) (live_set (by simp) hl))
    (fun k g' hK _ hg => by
      rcases hK with rfl | rfl
      · rw [← hd2]; exact hg
      · unfold hdOf at hg; rw [e2] at hg; cases hg)
    (fun k b hK hb => by
      rcases hK with rfl | rfl
      · rcases (ho2 b).1 hb with h | h
        · exact ⟨k, .inl rfl, (ho1 b).2 h⟩
        · exact ⟨id', .inr rfl, h⟩
      · unfold ownsB at hb; rw [e2] at hb; exact hb.elim)
    (fun k k' b hK hK' h1 h2 => by
      rcases hK with rfl | rfl
      · rcases hK' with rfl | rfl
        · rfl
        · unfold ownsB at h2; rw [e2] at h2; exact h2.elim
      · unfold ownsB at h1; rw [e2] at h1; exact h1.elim)
    (fun hle k o hK ho => by
      rcases hK with rfl | rfl
      · rw [e1] at ho; cases ho
        have hb : β' k = (β k).ws fun b => (β k).sub b ∨ ownsB H β id' b := upd_same _ _ _
        rw [hb]
        refine .inr ⟨q1, q2, fun e => ?_, ?_, q5⟩
        · rcases e with e | e
          · exact q3 e
          · exact hne (hk.one _ _ _ ((ho1 _).2 (.inl rfl)) e)
        · have := (hnew.mono (hle.only _) fun _ _ => rfl).congr (S' := fun b => (β k).b = b ∨ ((β k).sub b ∨ ownsB H β id' b)) fun b => by
            have := hsx b
            constructor
            · rintro (⟨h | h, _⟩ | h)
              · exact .inl h
              · exact .inr (.inl h)
              · exact .inr (.inr h)
            · rintro (h | h | h)
              · exact .inl ⟨.inl h, this⟩
              · exact .inl ⟨.inr h, this⟩
              · exact .inr h
          rw [List.length_set]
          exact this
      · rw [e2] at ho; cases ho; trivial)
  exact ⟨β', h1, h2, .refl _ _⟩

end
end Go.Abs

namespace Go.Abs
set_option linter.unusedVariables false
section
variable {w : World} {β : Nat → Hd} {F : Nat → Prop} {H : Heap}

/-- A cell's slice by itself: how an object that lies so would lie. -/
theorem TR.alone {c : Cx} {refs : List Nat} {S : Nat → Prop} {u : Value} {es : Nat} {rows : List (List Ce)} (h : TR c refs S u (.n es rows)) :
    ∃ hd : Hd, hd.es = es ∧ hd.lo = 0 ∧ (hd.wt rows.length).slice 0 rows.length u ∧ (∀ b, (hd.nil = false ∧ (hd.b = b ∨ hd.sub b)) ↔ S b) ∧ RO c hd (.tree refs rows) := by
  cases h with
  | nil =>
    refine ⟨⟨0, 0, 0, es, 0, true, 0, noSub⟩, rfl, rfl, .inl ⟨rfl, ⟨_, rfl⟩, rfl⟩, fun b => ⟨?_, fun e => e.elim⟩, .inl ⟨rfl, rfl, rfl⟩⟩
    rintro ⟨e, _⟩
    cases e
  | n had cs E g T hb hcap hsz hlen hg hr hT hS hd hd2 =>
    rename_i ad b o cap
    refine ⟨⟨b, o, cap, es, 0, false, 0, fun k => S k ∧ k ≠ b⟩, rfl, rfl, .inr ⟨rfl, ad, by simp [Hd.wt], by simp [Hd.wt], fun hc => ?_⟩, fun k => ?_, .inr ⟨rfl, rfl, fun e => e.2 rfl, ?_, fun cs' E' fr' e => ?_⟩⟩
    · have := had (by simpa [Hd.wt] using hc)
      simp [Hd.wt, this]
    · constructor
      · rintro ⟨_, rfl | e⟩
        · exact (hS _).2 (.inl rfl)
        · exact e.1
      · intro e
        by_cases hkb : b = k
        · exact ⟨rfl, .inl hkb⟩
        · exact ⟨rfl, .inr ⟨e, fun e => hkb e.symm⟩⟩
    · refine (TR.n (ad := ⟨b, o, none⟩) (fun _ => rfl) cs E g T hb hcap hsz hlen hg hr hT hS hd hd2).congr fun k => ?_
      constructor
      · intro e
        by_cases hkb : b = k
        · exact .inl hkb
        · exact .inr ⟨e, fun e => hkb e.symm⟩
      · rintro (rfl | e)
        · exact (hS _).2 (.inl rfl)
        · exact e.1
    · rw [hb] at e; cases e; exact hsz

theorem adv_unpack {id i j es : Nat} {refs : List Nat} {rows rows' : List (List Ce)} {row : List Ce} (hk : HOK w.heap H β F) (hid : H[id]? = some (.tree refs rows))
    (hi : rows[i]? = some row) (hj : row[j]? = some (.n es rows')) :
    ∃ β', Adv F w H β w (H.set id (.tree (H.length :: refs) (rows.set i (row.set j (.v (.own H.length es 0 rows'.length rows'.length))))) ++ [.tree refs rows']) β' := by
  generalize hH' : H.set id (.tree (H.length :: refs) (rows.set i (row.set j (.v (.own H.length es 0 rows'.length rows'.length))))) ++ [.tree refs rows'] = H'
  have hlt := lt_of_get hid
  have e1 : H'[id]? = some (.tree (H.length :: refs) (rows.set i (row.set j (.v (.own H.length es 0 rows'.length rows'.length))))) := by
    rw [← hH', List.getElem?_append_left (by rw [List.length_set]; exact hlt)]; exact get_set hid
  have e2 : H'[H.length]? = some (.tree refs rows') := by
    rw [← hH', List.getElem?_append_right (by rw [List.length_set]; exact Nat.le_refl _), List.length_set, Nat.sub_self]; rfl
  have e3 : ∀ k, k ≠ id → k ≠ H.length → H'[k]? = H[k]? := fun k h1 h2 => by
    rw [← hH']
    by_cases hkl : k < H.length
    · rw [List.getElem?_append_left (by rw [List.length_set]; exact hkl), getElem?_set_ne' h1]
    · rw [List.getElem?_append_right (by rw [List.length_set]; omega), List.length_set, List.getElem?_eq_none (by simp; omega), List.getElem?_eq_none (by omega)]
  have hne : id ≠ H.length := by omega
  have hnl : ∀ {P : Prop}, liveIn H H.length → P := fun ⟨o, h, _⟩ => by rw [List.getElem?_eq_none (Nat.le_refl _)] at h; cases h
  have hnn : (β id).nil = false ∧ (β id).lo = 0 ∧ ¬ (β id).sub (β id).b ∧ TR (cx w.heap H β F) refs (fun b => (β id).b = b ∨ (β id).sub b) (.slice (some ⟨(β id).b, (β id).o, none⟩) rows.length (β id).cap) (.n (β id).es rows) ∧ ∀ cs E fr, (cx w.heap H β F).hp[(β id).b]? = some (.cells cs E fr) → (β id).o + (β id).cap * (β id).es ≤ cs.size := by
    rcases hk.ro id _ hid with hr | hr
    · rw [hr.2.1] at hi; simp at hi
    · exact hr
  obtain ⟨q1, q2, q3, q4, q5⟩ := hnn
  obtain ⟨u, Sx, hx, hxs, hxb, hset⟩ := q4.cell hi hj
  have hxb' := hxb (β id).b (β id).o (fun _ => rfl) (fun e => by rw [e] at hi; simp at hi)
  obtain ⟨hd, a1, a2, a3, a4, a5⟩ := hx.alone
  have ho1 : ∀ b, ownsB H β id b ↔ (β id).b = b ∨ (β id).sub b := fun b => by unfold ownsB; rw [hid]; simp [q1]
  let β' := upd (upd β id ((β id).ws fun b => (β id).sub b ∧ ¬ Sx b)) H.length hd
  have b1 : β' id = (β id).ws fun b => (β id).sub b ∧ ¬ Sx b := by simp only [β']; rw [upd_ne _ _ hne, upd_same]
  have b2 : β' H.length = hd := upd_same _ _ _
  have ho2 : ∀ b, ownsB H' β' id b ↔ ((β id).b = b ∨ (β id).sub b) ∧ ¬ Sx b := fun b => by
    unfold ownsB; rw [e1]
    simp only [b1, q1, true_and]
    constructor
    · rintro (rfl | h)
      · exact ⟨.inl rfl, hxb'.1⟩
      · exact ⟨.inr h.1, h.2⟩
    · rintro ⟨h | h, h2⟩
      · exact .inl h
      · exact .inr ⟨h, h2⟩
  have ho3 : ∀ b, ownsB H' β' H.length b ↔ Sx b := fun b => by
    unfold ownsB; rw [e2]; simp only [b2]; exact a4 b
  have hd2 : hdOf H' β' id = hdOf H β id := by
    unfold hdOf; rw [e1, hid]; simp only [b1, List.length_set]; rfl
  have hd3 : hdOf H' β' H.length = some (hd.wt rows'.length) := by
    unfold hdOf; rw [e2]; simp only [b2]
  obtain ⟨h1, h2⟩ := hk.rearr (H' := H') (β' := β') (K := fun k => k = id ∨ k = H.length)
    (fun k hK => ⟨e3 k (fun e => hK (.inl e)) (fun e => hK (.inr e)), by simp only [β']; rw [upd_ne _ _ fun e => hK (.inr e), upd_ne _ _ fun e => hK (.inl e)]⟩)
    (fun k hK hl => by
      rcases hK with rfl | rfl
      · exact ⟨_, e1, by simp⟩
      · exact hnl hl)
    (fun k g' hK hl hg => by
      rcases hK with rfl | rfl
      · rw [← hd2]; exact hg
      · exact hnl hl)
    (fun k b hK hb => by
      rcases hK with rfl | rfl
      · exact ⟨k, .inl rfl, (ho1 b).2 ((ho2 b).1 hb).1⟩
      · exact ⟨id, .inl rfl, (ho1 b).2 (hxs b ((ho3 b).1 hb))⟩)
    (fun k k' b hK hK' h1 h2 => by
      rcases hK with rfl | rfl <;> rcases hK' with rfl | rfl
      · rfl
      · exact absurd ((ho3 b).1 h2) ((ho2 b).1 h1).2
      · exact absurd ((ho3 b).1 h1) ((ho2 b).1 h2).2
      · rfl)
    (fun hle k o hK ho => by
      rcases hK with rfl | rfl
      · rw [e1] at ho; cases ho
        rw [b1]
        refine .inr ⟨q1, q2, fun e => q3 e.1, ?_, q5⟩
        have hone := hx.one
        have hown : RV ((cx w.heap H' β' F).only (H.length :: refs)) u (.own H.length es 0 rows'.length rows'.length) := by
          refine .own ⟨List.mem_cons_self, ⟨_, e2, by simp⟩⟩ fun h hh => ?_
          have hh' : hdOf H' β' H.length = some h := hh
          rw [hd3] at hh'
          cases hh'
          exact ⟨Nat.le_refl _, fun _ => ⟨by show hd.lo ≤ 0; omega, a1, a3⟩⟩
        have := hset (cx w.heap H' β' F) (H.length :: refs) rfl (fun S u x h => (h.mono (hle.only _) fun _ _ => rfl).sup fun k hk => List.mem_cons_of_mem _ hk) _ noSub (.v hone hown) (fun k h => h.elim)
        rw [List.length_set]
        refine this.congr fun b => ?_
        constructor
        · rintro (⟨h | h, h2⟩ | h)
          · exact .inl h
          · exact .inr ⟨h, h2⟩
          · exact h.elim
        · rintro (rfl | h)
          · exact .inl ⟨.inl rfl, hxb'.1⟩
          · exact .inl ⟨.inr h.1, h.2⟩
      · rw [e2] at ho; cases ho
        rw [b2]
        exact a5.mono hle rfl (fun hn e => hn (e.imp (fun ⟨k0, h0⟩ => by
          by_cases hA : k0 = id
          · subst hA; exact ⟨k0, (ho1 _).2 ((ho2 _).1 h0).1⟩
          · by_cases hB : k0 = H.length
            · subst hB; exact ⟨id, (ho1 _).2 (hxs _ ((ho3 _).1 h0))⟩
            · refine ⟨k0, ?_⟩
              unfold ownsB at h0 ⊢
              have : β' k0 = β k0 := by simp only [β']; rw [upd_ne _ _ hB, upd_ne _ _ hA]
              rw [e3 k0 hA hB, this] at h0
              exact h0) fun e => e)) fun _ _ _ _ _ _ => rfl)
  exact ⟨β', h1, h2, .refl _ _⟩

end
end Go.Abs

/- Contracts: what a call leaves that its caller has no use for. -/
namespace Go.Abs
set_option linter.unusedVariables false

theorem hok_trim {n : Nat} {F : Nat → Prop} {w : World} {β : Nat → Hd} {H : Heap} (hk : HOK w.heap H β F) :
    HOK w.heap ((H.take n).map (limO n)) β F ∧ (∀ id b, ownsB ((H.take n).map (limO n)) β id b → ownsB H β id b) ∧ (∀ id g, hdOf ((H.take n).map (limO n)) β id = some g → hdOf H β id = some g) ∧ (∀ id, id < n → liveIn H id → liveIn ((H.take n).map (limO n)) id) ∧
      ∀ refs : List Nat, (∀ i ∈ refs, i < n) → ((cx w.heap H β F).only refs).le ((cx w.heap ((H.take n).map (limO n)) β F).only refs) := by
  have hget : ∀ {id : Nat} {o : O}, ((H.take n).map (limO n))[id]? = some o → id < n ∧ ∃ o', H[id]? = some o' ∧ o = limO n o' := by
    intro id o h
    simp only [List.getElem?_map, Option.map_eq_some_iff] at h
    obtain ⟨o', h, rfl⟩ := h
    rw [List.getElem?_take] at h
    split at h
    · next hlt => exact ⟨hlt, o', h, rfl⟩
    · cases h
  have hown : ∀ id b, ownsB ((H.take n).map (limO n)) β id b → ownsB H β id b := by
    intro id b h
    unfold ownsB at h
    cases h1 : ((H.take n).map (limO n))[id]? with
    | none => rw [h1] at h; exact h.elim
    | some o =>
      obtain ⟨hlt, o', h2, rfl⟩ := hget h1
      rw [h1] at h
      unfold ownsB
      rw [h2]
      unfold limO at h
      split at h
      · next e =>
        split at e
        · injection e with e; subst e; exact h
        · cases e
      · next e =>
        split at e
        · injection e with e; subst e; exact h
        · cases e
      · next e =>
        split at e
        · injection e with e; subst e; exact h
        · cases e
      · next e =>
        split at e
        · injection e with e; subst e; exact h
        · cases e
      · exact h.elim
  have hhd : ∀ id g, hdOf ((H.take n).map (limO n)) β id = some g → hdOf H β id = some g := by
    intro id g h
    unfold hdOf at h
    cases h1 : ((H.take n).map (limO n))[id]? with
    | none => rw [h1] at h; cases h
    | some o =>
      obtain ⟨hlt, o', h2, rfl⟩ := hget h1
      rw [h1] at h
      unfold hdOf
      rw [h2]
      unfold limO at h
      split at h
      · next e =>
        split at e
        · injection e with e; subst e; exact h
        · cases e
      · next e =>
        split at e
        · injection e with e; subst e; exact h
        · cases e
      · next e =>
        split at e
        · injection e with e; subst e; exact h
        · cases e
      · next e =>
        split at e
        · injection e with e; subst e; exact h
        · cases e
      · cases h
  have hlive : ∀ id, id < n → liveIn H id → liveIn ((H.take n).map (limO n)) id := by
    rintro id hlt ⟨o, h1, h2⟩
    refine ⟨limO n o, ?_, ?_⟩
    · simp [List.getElem?_take, hlt, h1]
    · unfold limO; split
      · exact h2
      · intro e; cases e
  have hle : ∀ refs : List Nat, (∀ i ∈ refs, i < n) → ((cx w.heap H β F).only refs).le ((cx w.heap ((H.take n).map (limO n)) β F).only refs) := by
    intro refs hrefs
    refine ⟨Nat.le_refl _, fun b hb hno => ⟨rfl, fun e => hno ?_⟩, fun id hl => ⟨hl.1, hlive id (hrefs id hl.1) hl.2⟩, fun id g' hl e => .inl (hhd id g' e)⟩
    rcases e with ⟨id, e⟩ | e
    · exact .inl ⟨id, hown id b e⟩
    · exact .inr e
  refine ⟨⟨fun id o h => ?_, fun id id' b h1 h2 => hk.one id id' b (hown _ _ h1) (hown _ _ h2), fun b hb => ⟨(hk.far b hb).1, fun ⟨id, e⟩ => (hk.far b hb).2 ⟨id, hown _ _ e⟩⟩⟩, hown, hhd, hlive, hle⟩
  · obtain ⟨hlt, o', h2, rfl⟩ := hget h
    have hro := hk.ro id o' h2
    unfold limO
    split
    · next hrefs =>
      have hrefs' : ∀ i ∈ o'.refs, i < n := fun i hi => by simpa using List.all_eq_true.1 hrefs i hi
      have hownb : ∀ b, (cx w.heap ((H.take n).map (limO n)) β F).own b → (cx w.heap H β F).own b := by
        rintro b (⟨id, e⟩ | e)
        · exact .inl ⟨id, hown id b e⟩
        · exact .inr e
      cases o' with
      | res => trivial
      | dead => trivial
      | sit s pos => exact hro
      | tree refs rows =>
        rcases hro with hro | ⟨q1, q2, q3, q4, q5⟩
        · exact .inl hro
        · exact .inr ⟨q1, q2, q3, q4.mono (hle refs hrefs') fun _ _ => rfl, q5⟩
      | mem fz refs rows =>
        rcases hro with hro | ⟨q1, q2, q3, q4, q5, cs, E, fr, q6, q7, q8, q9⟩
        · exact .inl hro
        · refine .inr ⟨q1, q2, q3, q4, fun e k => q5 e (hownb _ k), cs, E, fr, q6, q7, q8, fun i row hi hlo j x hj => ?_⟩
          obtain ⟨v, e1, e2, e3⟩ := q9 i row hi hlo j x hj
          exact ⟨v, e1, e2, e3.mono (hle refs hrefs')⟩
      | map fz refs es =>
        obtain ⟨q1, ents, clock, q2, q3, q4, q5, q6⟩ := hro
        exact ⟨fun e k => q1 e (hownb _ k), ents, clock, q2, q3, q4, q5, fun i e x he hx => ⟨(q6 i e x he hx).1.mono (hle [] (by simp)), (q6 i e x he hx).2.mono (hle refs hrefs')⟩⟩
    · trivial

theorem DC.trim {P : Program} {f : FuncId} {xs : List V} {H : Heap} {Q Q' : V → Heap → Prop} (h : DC P f xs H Q)
    (hq : ∀ x H', Q x H' → ∃ n, H.length ≤ n ∧ (∀ i ∈ x.ids, i < n) ∧ Q' x ((H'.take n).map (limO n))) : DC P f xs H Q' := fun w β F vs hk hr =>
  (h w β F vs hk hr).mono fun e w' ⟨r, x, H', β2, h1, h2, h3, h4⟩ => by
    obtain ⟨n, hn, hx, hQ⟩ := hq x H' h4
    obtain ⟨t1, hown, hhd, hlive, hle⟩ := hok_trim (n := n) h2.hok
    refine ⟨r, x, _, β2, h1, ⟨t1, ⟨h2.le.size, fun b hb hno => ⟨(h2.le.same b hb hno).1, fun e => (h2.le.same b hb hno).2 (e.imp (fun ⟨id, e⟩ => ⟨id, hown _ _ e⟩) fun e => e)⟩, fun id hl => ?_, fun id g' hl e => h2.le.hd id g' hl (hhd _ _ e)⟩, h2.ext⟩, ?_, hQ⟩
    · have hlt : id < H.length := by obtain ⟨o, e, _⟩ := hl; exact lt_of_get e
      exact hlive id (Nat.lt_of_lt_of_le hlt hn) (h2.le.live id hl)
    · exact ((h3.onlyOf _ fun i hi => hi).mono (hle _ hx)).up
end Go.Abs

namespace Go.Abs.G
open Go.Proofs
set_option linter.unusedVariables false
set_option linter.unusedSimpArgs false
attribute [local simp] I.vc sub merge place

def U (s : List Dom) (T : List (List Ce)) : Heap := [.mem false [1, 2] [[.own 1 4 0 s.length s.length, .own 2 1 0 T.length T.length]], .mem false [] (s.map Dom.row), .tree [] T]
structure StOk (s : List Dom) (T : List (List Ce)) : Prop where
  n : s.length ≤ 64
  k : T.length ≤ 1000000
  d : ∀ d ∈ s, d.ok
  t : ∀ f, Ce.renR f T = T
def isB (s : List Dom) (x : Int) : Bool := decide (0 ≤ x) && decide (x < s.length)

theorem isS_spec {s : List Dom} {T : List (List Ce)} (hs : StOk s T) (x : Int) : DC Tryz.prog dom_Store_is.id [.ptr 0 1 0 0, V.i x] (U s T) (fun r H => r = .bool (isB s x) ∧ H = U s T) := by
  refine DC.of dom_Store_is.ok (by simp) ?_
  by_cases h : 0 ≤ x
  · simp [dom_Store_is.ir, dom_Store_is.rs, U, isB, h]
  · simp [dom_Store_is.ir, dom_Store_is.rs, U, isB, h]
def Dom.size (d : Dom) : Nat := pop d.a + pop d.b
theorem pop_le (n : Nat) : pop n ≤ 32 := by
  have := List.countP_le_length (p := n.testBit) (l := List.range 32)
  simpa [pop] using this
theorem size_spec {rows : List (List V)} {d : Dom} {x : Nat} (hx : rows[x]? = some d.row) (hd : d.ok) :
    DC Tryz.prog dom_set_size.id [.ptr 0 rows.length x 2] [.mem false [] rows] (fun r H => r = V.i d.size ∧ H = [.mem false [] rows]) := by
  obtain ⟨hlt, he⟩ := List.getElem?_eq_some_iff.1 hx
  have p1 := pop_le d.a
  have p2 := pop_le d.b
  refine DC.of dom_set_size.ok (by simp) ?_
  simp [dom_set_size.ir, dom_set_size.rs]
  refine WI.mono (Q := fun e s => e = .exit 0 ∧ gt s.sl 3 = V.i d.size ∧ s.hp = [.mem false [] rows])
    (WI.loop 1 (by simp) (fun s => ∃ i : Nat, i ≤ 2 ∧ gt s.sl 6 = .ptr 0 rows.length x 2 ∧ gt s.sl 7 = V.i i ∧ gt s.sl 3 = V.i (if i = 0 then 0 else if i = 1 then pop d.a else d.size : Nat) ∧ s.hp = [.mem false [] rows]) (fun s => (2 - (gt s.sl 7).num).toNat) ?_ ?_) ?_
  · exact ⟨0, by simp⟩
  · rintro ⟨sl, hp, bs⟩ ⟨i, hi, h6, h7, h3, rfl⟩
    have hi' : i = 0 ∨ i = 1 ∨ i = 2 := by omega
    rcases hi' with rfl | rfl | rfl
    · simp [dom_set_size.b0, h6, h7, h3, hx, he, hlt, Dom.row]
      refine (ones_spec d.a hd.a).use ?_
      simp [h6, h7, h3]
      exact ⟨⟨1, by omega, by decide, by rw [wrap64 (by omega) (by omega)]; rfl⟩, by decide⟩
    · simp [dom_set_size.b0, h6, h7, h3, hx, he, hlt, Dom.row]
      refine (ones_spec d.b hd.b).use ?_
      simp [h6, h7, h3]
      exact ⟨⟨2, by omega, by decide, by rw [wrap64 (by omega) (by omega)]; rfl⟩, by decide⟩
    · simp [dom_set_size.b0, h6, h7, h3]
  · rintro e ⟨sl, hp, bs⟩ ⟨rfl, h3, rfl⟩
    simp [h3]


section
variable {s s' : List Dom} {T T' : List (List Ce)} {E : Heap}
@[simp] theorem U_len : (U s T).length = 3 := rfl
@[simp] theorem U_0 : (U s T)[0]? = some (.mem false [1, 2] [[.own 1 4 0 s.length s.length, .own 2 1 0 T.length T.length]]) := rfl
@[simp] theorem U_1 : (U s T)[1]? = some (.mem false [] (s.map Dom.row)) := rfl
@[simp] theorem U_2 : (U s T)[2]? = some (.tree [] T) := rfl
@[simp] theorem UE_0 : (U s T ++ E)[0]? = some (.mem false [1, 2] [[.own 1 4 0 s.length s.length, .own 2 1 0 T.length T.length]]) := rfl
@[simp] theorem UE_1 : (U s T ++ E)[1]? = some (.mem false [] (s.map Dom.row)) := rfl
@[simp] theorem UE_2 : (U s T ++ E)[2]? = some (.tree [] T) := rfl
@[simp] theorem U_clos : clos (U s T) 8 [0] = [0, 1, 2] := by simp [clos, addAll, O.refs, U]
@[simp] theorem UE_clos : clos (U s T ++ E) 8 [0] = [0, 1, 2] := by simp [clos, addAll, O.refs, U]
@[simp] theorem row_ren (f : Nat → Nat) (d : Dom) : V.renL f d.row = d.row := rfl
theorem U_ren (f : Nat → Nat) (h1 : f 1 = 1) (h2 : f 2 = 2) (ht : ∀ f, Ce.renR f T = T) : (U s T).map (O.ren f) = U s T := by
  simp [U, O.ren, V.renL, V.ren, h1, h2, ht, Function.comp_def]
theorem UE_sub (ht : ∀ f, Ce.renR f T = T) : sub (U s T ++ E) [0, 1, 2] = U s T := U_ren (idx [0, 1, 2]) rfl rfl ht
theorem U_sub (ht : ∀ f, Ce.renR f T = T) : sub (U s T) [0, 1, 2] = U s T := U_ren (idx [0, 1, 2]) rfl rfl ht
theorem UE_merge (ht : ∀ f, Ce.renR f T' = T') : merge (U s T ++ E) [0, 1, 2] (U s' T') = U s' T' ++ E := by
  have h := U_ren (s := s') (back [0, 1, 2] (U s T ++ E).length) rfl rfl ht
  have h1 : (U s' T').take 3 = U s' T' := rfl
  have h2 : (U s' T').drop 3 = [] := rfl
  simp only [merge, List.length_cons, List.length_nil, Nat.zero_add, Nat.reduceAdd, h1, h2, h, List.map_nil, List.append_nil]
  rfl
theorem U_merge (ht : ∀ f, Ce.renR f T' = T') : merge (U s T) [0, 1, 2] (U s' T') = U s' T' := by
  have h := U_ren (s := s') (back [0, 1, 2] (U s T).length) rfl rfl ht
  have h1 : (U s' T').take 3 = U s' T' := rfl
  have h2 : (U s' T').drop 3 = [] := rfl
  simp only [merge, List.length_cons, List.length_nil, Nat.zero_add, Nat.reduceAdd, h1, h2, h, List.map_nil, List.append_nil]
  rfl
theorem U_sel : OkSel (U s T) [0, 1, 2] := by
  simp [OkSel, O.refs, U]
theorem UE_sel : OkSel (U s T ++ E) [0, 1, 2] := by
  simp [OkSel, O.refs, U]
end
end Go.Abs.G


namespace Go.Abs.G
open Go.Proofs
set_option linter.unusedVariables false
set_option linter.unusedSimpArgs false
section
variable {s s' : List Dom} {T T' : List (List Ce)} {E : Heap}
@[simp] theorem U_clos1 : clos (U s T) 8 [1] = [1] := by simp [clos, addAll, O.refs, U]
theorem U_sel1 : OkSel (U s T) [1] := by simp [OkSel, O.refs, U]
theorem U_sub1 : sub (U s T) [1] = [.mem false [] (s.map Dom.row)] := by simp [sub, U, O.ren, Function.comp_def]
theorem U_merge1 : merge (U s T) [1] [.mem false [] (s.map Dom.row)] = U s T := by simp [merge, U, O.ren, place, Function.comp_def]
end

theorem StOk.row {s : List Dom} {T : List (List Ce)} (hs : StOk s T) {x : Int} (h : isB s x = true) : ∃ i d, x = ((i : Nat) : Int) ∧ i < s.length ∧ s[i]? = some d ∧ d.ok ∧ (s.map Dom.row)[i]? = some d.row := by
  simp only [isB, Bool.and_eq_true, decide_eq_true_eq] at h
  have hlt : x.toNat < s.length := by omega
  exact ⟨x.toNat, s[x.toNat], by omega, hlt, by simp [hlt], hs.d _ (List.getElem_mem hlt), by simp [hlt]⟩

attribute [local simp] I.vc

theorem sizeS_spec {s : List Dom} {T : List (List Ce)} (hs : StOk s T) (x : Int) : DC Tryz.prog dom_Store_Size.id [.ptr 0 1 0 0, V.i x] (U s T) (fun r H => r = V.i (if isB s x then (((s[x.toNat]?).map Dom.size).getD 0 : Nat) else 0 : Int) ∧ H = U s T) := by
  refine DC.of dom_Store_Size.ok (by simp) ?_
  unfold dom_Store_Size.ir
  refine vc_cut (fun st => gt st.sl 0 = .ptr 0 1 0 0 ∧ gt st.sl 1 = V.i x ∧ st.hp = U s T) (by simp) ?_
  rintro ⟨sl, hp, bs⟩ ⟨h0, h1, rfl⟩
  refine vc_cut (fun st => isB s x = true ∧ gt st.sl 0 = .ptr 0 1 0 0 ∧ gt st.sl 1 = V.i x ∧ st.hp = U s T) ?_ ?_
  · simp [h0, h1, V.idsL, V.ids, U_sub hs.t, U_sel]
    refine DC.mono (isS_spec hs x) ?_
    rintro r H ⟨rfl, rfl⟩
    cases h : isB s x <;> simp [U_merge hs.t, dom_Store_Size.rs]
  clear h0 h1
  rintro ⟨sl, hp, bs⟩ ⟨h, h0, h1, rfl⟩
  obtain ⟨i, d, rfl, hi, hd, hok, hr⟩ := hs.row h
  have := size_spec (rows := s.map Dom.row) hr hok
  rw [List.length_map] at this
  have hds : s[i] = d := by rw [List.getElem?_eq_getElem hi] at hd; injection hd
  simp [h0, h1, h, hi, V.idsL, V.ids, U_sel1, U_sub1]
  refine DC.mono this ?_
  rintro r H ⟨rfl, rfl⟩
  simp [U_merge1, dom_Store_Size.rs, hds]
end Go.Abs.G


namespace Go.Abs.G
open Go.Proofs
set_option linter.unusedVariables false
set_option linter.unusedSimpArgs false
attribute [local simp] I.vc
section
variable (d : Dom)
@[simp] theorem row_len : d.row.length = 4 := rfl
@[simp] theorem row_head : d.row.head? = some (V.i d.from') := rfl
@[simp] theorem row_0 : d.row[0]? = some (V.i d.from') := rfl
@[simp] theorem row_1 : d.row[1]? = some (V.i d.width) := rfl
@[simp] theorem row_2 : d.row[2]? = some (V.w d.a) := rfl
@[simp] theorem row_3 : d.row[3]? = some (V.w d.b) := rfl
@[simp] theorem row_0' (h) : d.row[0]'h = V.i d.from' := rfl
@[simp] theorem row_1' (h) : d.row[1]'h = V.i d.width := rfl
@[simp] theorem row_2' (h) : d.row[2]'h = V.w d.a := rfl
@[simp] theorem row_3' (h) : d.row[3]'h = V.w d.b := rfl
end
section
variable {s s' : List Dom} {T T' : List (List Ce)} {E : Heap}
@[simp] theorem UE_3 (o : O) : (U s T ++ (o :: E))[3]? = some o := rfl
@[simp] theorem UE_3' (o : O) (h) : (U s T ++ (o :: E))[3]'h = o := rfl
@[simp] theorem UE_0' (h) : (U s T ++ E)[0]'h = .mem false [1, 2] [[.own 1 4 0 s.length s.length, .own 2 1 0 T.length T.length]] := rfl
@[simp] theorem UE_1' (h) : (U s T ++ E)[1]'h = .mem false [] (s.map Dom.row) := rfl
@[simp] theorem UE_2' (h) : (U s T ++ E)[2]'h = .tree [] T := rfl
@[simp] theorem UE_4 (o o' : O) : (U s T ++ (o :: o' :: E))[4]? = some o' := rfl
@[simp] theorem UE_4' (o o' : O) (h) : (U s T ++ (o :: o' :: E))[4]'h = o' := rfl
@[simp] theorem UE_set3 (o o' : O) : (U s T ++ (o :: E)).set 3 o' = U s T ++ (o' :: E) := rfl
@[simp] theorem UE_set4 (o o1 o' : O) : (U s T ++ (o :: o1 :: E)).set 4 o' = U s T ++ (o :: o' :: E) := rfl
theorem trimU {P : Program} {f : FuncId} {xs : List V} {Q : V → Prop} {S' : V → List Dom} {T' : V → List (List Ce)} (h : DC P f xs (U s T) fun r H' => (∀ i ∈ r.ids, i < 3) ∧ Q r ∧ ∃ E, H' = U (S' r) (T' r) ++ E) :
    DC P f xs (U s T) fun r H' => Q r ∧ H' = U (S' r) (T' r) :=
  h.trim fun x H' ⟨h1, h2, E, h3⟩ => ⟨3, by simp, h1, h2, by rw [h3]; rfl⟩
theorem UE1_clos (rows : List (List V)) (E : Heap) : clos (U s T ++ (.mem false [] rows :: E)) 8 [3] = [3] := by simp [clos, addAll, O.refs, U]
theorem UE1_sel (rows : List (List V)) (E : Heap) : OkSel (U s T ++ (.mem false [] rows :: E)) [3] := by simp [OkSel, O.refs, U]
theorem UE1_sub (d : Dom) (E : Heap) : sub (U s T ++ (.mem false [] [d.row] :: E)) [3] = [.mem false [] [d.row]] := by simp [sub, U, O.ren]
theorem UE1_merge (d d' : Dom) (E : Heap) : merge (U s T ++ (.mem false [] [d.row] :: E)) [3] [.mem false [] [d'.row]] = U s T ++ (.mem false [] [d'.row] :: E) := by simp [merge, U, O.ren, place]
end

def hasB (s : List Dom) (x v : Int) : Bool := match s[x.toNat]? with
  | some d => decide (0 ≤ x) && (decide (d.from' ≤ v) && decide (v < d.from' + d.width)) && d.has (v - d.from').toNat
  | none => false

theorem hasS_spec {s : List Dom} {T : List (List Ce)} (hs : StOk s T) (x v : Int) (hv : I64 v) : DC Tryz.prog dom_Store_Has.id [.ptr 0 1 0 0, V.i x, V.i v] (U s T) (fun r H => r = .bool (hasB s x v) ∧ H = U s T) := by
  refine trimU (S' := fun _ => s) (T' := fun _ => T) (Q := fun r => r = .bool (hasB s x v)) ?_
  refine DC.of dom_Store_Has.ok (by simp) ?_
  unfold dom_Store_Has.ir
  refine vc_cut (fun st => gt st.sl 0 = .ptr 0 1 0 0 ∧ gt st.sl 1 = V.i x ∧ gt st.sl 2 = V.i v ∧ st.hp = U s T) (by simp) ?_
  rintro ⟨sl, hp, bs⟩ ⟨h0, h1, h2, rfl⟩
  refine vc_cut (fun st => isB s x = true ∧ gt st.sl 0 = .ptr 0 1 0 0 ∧ gt st.sl 1 = V.i x ∧ gt st.sl 2 = V.i v ∧ st.hp = U s T) ?_ ?_
  · simp [h0, h1, h2, V.idsL, V.ids, U_sub hs.t, U_sel]
    refine DC.mono (isS_spec hs x) ?_
    rintro r H ⟨rfl, rfl⟩
    cases h : isB s x
    · have : hasB s x v = false := by
        unfold hasB
        cases hx : s[x.toNat]? with
        | none => rfl
        | some d =>
          have hlt := lt_of_get hx
          simp only [isB, Bool.and_eq_false_iff, decide_eq_false_iff_not] at h
          have h0 : ¬ 0 ≤ x := by omega
          simp [h0]
      simp [U_merge hs.t, dom_Store_Has.rs, this, V.ids]
    · simp [U_merge hs.t, dom_Store_Has.rs]
  clear h0 h1 h2
  rintro ⟨sl, hp, bs⟩ ⟨h, h0, h1, h2, rfl⟩
  obtain ⟨i, d, rfl, hi, hd, hok, hr⟩ := hs.row h
  have hds : s[i] = d := by rw [List.getElem?_eq_getElem hi] at hd; injection hd
  refine vc_cut (fun st => gt st.sl 2 = V.i v ∧ gt st.sl 7 = .ptr 3 1 0 0 ∧ st.hp = U s T ++ [.mem false [] [d.row]]) ?_ ?_
  · simp [h0, h1, h2, h, hi, hds, Dom.row, U]
  clear h0 h1 h2
  rintro ⟨sl, hp, bs⟩ ⟨h2, h7, rfl⟩
  have f1 := hok.f
  have f2 := hok.w
  obtain ⟨v1, v2⟩ := hv
  have hw1 : IntKind.i64.wrap (d.from' + d.width) = d.from' + d.width := by rw [wrap64] <;> omega
  by_cases hin : d.from' ≤ v ∧ v < d.from' + d.width
  · obtain ⟨k, rfl⟩ : ∃ k : Nat, v = d.from' + k := ⟨(v - d.from').toNat, by omega⟩
    have hk : k < d.width := by omega
    have hw2 : IntKind.i64.wrap (d.from' + k - d.from') = (k : Int) := by rw [wrap64] <;> omega
    have e1 : d.from' + k - d.from' = k := by omega
    have e2 : d.from' ≤ d.from' + k := by omega
    have hB : hasB s i (d.from' + k) = d.has k := by
      unfold hasB
      simp [hd, e1, e2, hk]
    have hh := has_spec (rows := [d.row]) (d := d) (x := 0) (k := k) rfl hok (by omega)
    simp [h2, h7, UE1_clos, UE1_sel, UE1_sub, V.idsL, V.ids, hin, hw1, hw2, hB, hk] at hh ⊢
    refine DC.mono hh ?_
    rintro r H ⟨rfl, rfl⟩
    simp [UE1_merge, dom_Store_Has.rs, V.ids]

  · have hB : hasB s i v = false := by
      unfold hasB
      simp [hd]
      omega
    by_cases h3 : d.from' ≤ v
    · have h4 : ¬ v < d.from' + d.width := by omega
      simp [h2, h7, UE1_clos, UE1_sel, UE1_sub, V.idsL, V.ids, hw1, hB, h3, h4, dom_Store_Has.rs]
    · simp [h2, h7, UE1_clos, UE1_sel, UE1_sub, V.idsL, V.ids, hw1, hB, h3, dom_Store_Has.rs]
end Go.Abs.G


namespace Go.Abs.G
open Go.Proofs
set_option linter.unusedVariables false
set_option linter.unusedSimpArgs false
attribute [local simp] I.vc
section
variable {s s' : List Dom} {T T' : List (List Ce)} {E : Heap}
@[simp] theorem row_take (d : Dom) : List.take 4 d.row = d.row := rfl
@[simp] theorem row_idsL (d : Dom) : V.idsL d.row = [] := rfl
@[simp] theorem U_lim5 : (U s T).map (limO 5) = U s T := rfl
@[simp] theorem U_take5 (a b : O) : List.take 5 (U s T ++ [a, b]) = U s T ++ [a, b] := rfl
theorem UE2_clos (b rows : List (List V)) (E : Heap) : clos (U s T ++ (.mem false [] b :: .mem false [] rows :: E)) 8 [4] = [4] := by simp [clos, addAll, O.refs, U]
theorem UE2_sel (b rows : List (List V)) (E : Heap) : OkSel (U s T ++ (.mem false [] b :: .mem false [] rows :: E)) [4] := by simp [OkSel, O.refs, U]
theorem UE2_sub (b : List (List V)) (d : Dom) (E : Heap) : sub (U s T ++ (.mem false [] b :: .mem false [] [d.row] :: E)) [4] = [.mem false [] [d.row]] := by simp [sub, U, O.ren]
theorem UE2_merge (b : List (List V)) (d d' : Dom) (E : Heap) : merge (U s T ++ (.mem false [] b :: .mem false [] [d.row] :: E)) [4] [.mem false [] [d'.row]] = U s T ++ (.mem false [] b :: .mem false [] [d'.row] :: E) := by simp [merge, U, O.ren, place]
end

def cutTo (k v : Int) (d : Dom) : Nat → Dom
  | 0 => d
  | n + 1 => if goesB k v (d.from' + n) then (cutTo k v d n).drop n else cutTo k v d n
theorem drop_from (d : Dom) (k : Nat) : (d.drop k).from' = d.from' := by unfold Dom.drop; split <;> rfl
theorem drop_width (d : Dom) (k : Nat) : (d.drop k).width = d.width := by unfold Dom.drop; split <;> rfl
theorem drop_ok {d : Dom} (k : Nat) (h : d.ok) : (d.drop k).ok := by
  unfold Dom.drop; split
  · exact ⟨h.f, h.w, clr_lt _ _, h.b⟩
  · exact ⟨h.f, h.w, h.a, clr_lt _ _⟩
theorem cutTo_from (k v : Int) (d : Dom) : ∀ n, (cutTo k v d n).from' = d.from'
  | 0 => rfl
  | n + 1 => by unfold cutTo; split <;> simp [drop_from, cutTo_from k v d n]
theorem cutTo_width (k v : Int) (d : Dom) : ∀ n, (cutTo k v d n).width = d.width
  | 0 => rfl
  | n + 1 => by unfold cutTo; split <;> simp [drop_width, cutTo_width k v d n]
theorem cutTo_ok (k v : Int) {d : Dom} (h : d.ok) : ∀ n, (cutTo k v d n).ok
  | 0 => h
  | n + 1 => by unfold cutTo; split; exact drop_ok _ (cutTo_ok k v h n); exact cutTo_ok k v h n

def Dom.none (d : Dom) : Bool := decide (d.a = 0) && decide (d.b = 0)
def Dom.same (d e : Dom) : Bool := decide (d.a = e.a) && decide (d.b = e.b)
def cutS (s : List Dom) (k x v : Int) : List Dom × Bool × Bool :=
  if isB s x then match s[x.toNat]? with
    | some d => if (cutTo k v d d.width).none then (s, false, false) else (s.set x.toNat (cutTo k v d d.width), !(cutTo k v d d.width).same d, true)
    | none => (s, false, true)
  else (s, false, true)

theorem cut_spec {s : List Dom} {T : List (List Ce)} (hs : StOk s T) (k x v : Int) :
    DC Tryz.prog dom_Store_Cut.id [.ptr 0 1 0 0, .agg [V.i k, V.i x, V.i v]] (U s T) (fun r H => r = .tup [.bool (cutS s k x v).2.1, .bool (cutS s k x v).2.2] ∧ H = U (cutS s k x v).1 T) := by
  refine trimU (S' := fun _ => (cutS s k x v).1) (T' := fun _ => T) (Q := fun r => r = .tup [.bool (cutS s k x v).2.1, .bool (cutS s k x v).2.2]) ?_
  refine DC.of dom_Store_Cut.ok (by simp) ?_
  unfold dom_Store_Cut.ir
  obtain ⟨B, hB⟩ : ∃ B, B = O.mem false [] [[V.i k, V.i x, V.i v]] := ⟨_, rfl⟩
  refine vc_cut (fun st => gt st.sl 0 = .ptr 0 1 0 0 ∧ gt st.sl 3 = .ptr 3 1 0 0 ∧ st.hp = U s T ++ [B]) (by subst hB; simp) ?_
  rintro ⟨sl, hp, bs⟩ ⟨h0, h3, rfl⟩
  refine vc_cut (fun st => isB s x = true ∧ gt st.sl 0 = .ptr 0 1 0 0 ∧ gt st.sl 3 = .ptr 3 1 0 0 ∧ st.hp = U s T ++ [B]) ?_ ?_
  · subst hB
    simp [h0, h3, V.idsL, V.ids, UE_sub hs.t, UE_sel]
    refine DC.mono (isS_spec hs x) ?_
    rintro r H ⟨rfl, rfl⟩
    cases h : isB s x <;> simp [UE_merge hs.t, dom_Store_Cut.rs, cutS, h, V.ids, V.idsL]
  clear h0 h3
  rintro ⟨sl, hp, bs⟩ ⟨h, h0, h3, rfl⟩
  obtain ⟨i, d, rfl, hi, hd, hok, hr⟩ := hs.row h
  have hds : s[i] = d := by rw [List.getElem?_eq_getElem hi] at hd; injection hd
  have f1 := hok.f
  have f2 := hok.w
  refine vc_cut (fun st => gt st.sl 0 = .ptr 0 1 0 0 ∧ gt st.sl 3 = .ptr 3 1 0 0 ∧ gt st.sl 6 = .ptr 4 1 0 0 ∧ st.hp = U s T ++ [B, .mem false [] [d.row]]) ?_ ?_
  · subst hB; simp [h0, h3, h, hi, hds, U]
  clear h0 h3
  rintro ⟨sl, hp, bs⟩ ⟨h0, h3, h6, rfl⟩
  refine vc_cut (fun st => gt st.sl 0 = .ptr 0 1 0 0 ∧ gt st.sl 3 = .ptr 3 1 0 0 ∧ gt st.sl 6 = .ptr 4 1 0 0 ∧ st.hp = U s T ++ [B, .mem false [] [(cutTo k v d d.width).row]]) ?_ ?_
  · subst hB
    simp [h0, h3, h6]
    refine WI.mono (Q := fun e st => e = .exit 0 ∧ gt st.sl 0 = .ptr 0 1 0 0 ∧ gt st.sl 3 = .ptr 3 1 0 0 ∧ gt st.sl 6 = .ptr 4 1 0 0 ∧ st.hp = U s T ++ [.mem false [] [[V.i k, V.i i, V.i v]], .mem false [] [(cutTo k v d d.width).row]])
      (WI.loop 5 (by simp) (fun st => ∃ j, j ≤ d.width ∧ gt st.sl 0 = .ptr 0 1 0 0 ∧ gt st.sl 3 = .ptr 3 1 0 0 ∧ gt st.sl 6 = .ptr 4 1 0 0 ∧ gt st.sl 23 = V.i d.width ∧ gt st.sl 24 = V.i j ∧ st.hp = U s T ++ [.mem false [] [[V.i k, V.i i, V.i v]], .mem false [] [(cutTo k v d j).row]]) (fun st => (d.width - (gt st.sl 24).num).toNat) ?_ ?_) ?_
    · exact ⟨0, by simp [h0, h3, h6, cutTo]⟩
    · clear h0 h3 h6
      rintro ⟨sl, hp, bs⟩ ⟨j, hj, h0, h3, h6, h23, h24, rfl⟩
      by_cases hjl : j < d.width
      · have hw : IntKind.i64.wrap ((j : Int) + 1) = ((j + 1 : Nat) : Int) := by rw [wrap64] <;> omega
        have hw2 : IntKind.i64.wrap (d.from' + j) = d.from' + j := by rw [wrap64] <;> omega
        have hc := cutTo_from k v d j
        have hk := cutTo_ok k v hok j
        have hds := drop_spec (rows := [(cutTo k v d j).row]) (x := 0) (k := j) rfl hk (by omega)
        simp [dom_Store_Cut.b0, h0, h3, h6, h23, h24, hjl, hw, hw2, hc, UE2_clos, UE2_sel, V.idsL, V.ids]
        refine (goes_spec k i v _).use ?_
        cases hg : goesB k v (d.from' + j)
        · simp
          exact ⟨⟨j + 1, by omega, by omega, by simp [cutTo, hg]⟩, by omega⟩
        · simp [UE2_sub]
          refine DC.mono hds ?_
          rintro r H ⟨rfl, rfl⟩
          simp [UE2_merge]
          exact ⟨⟨j + 1, by omega, by omega, by simp [cutTo, hg]⟩, by omega⟩
      · obtain rfl : j = d.width := by omega
        simp [dom_Store_Cut.b0, h0, h3, h6, h23, h24]
    · rintro e ⟨sl, hp, bs⟩ ⟨rfl, h0, h3, h6, rfl⟩
      simp [h0, h3, h6]
  clear h0 h3 h6
  rintro ⟨sl, hp, bs⟩ ⟨h0, h3, h6, rfl⟩
  have hcw : cutS s k i v = if (cutTo k v d d.width).none then (s, false, false) else (s.set i (cutTo k v d d.width), !(cutTo k v d d.width).same d, true) := by
    unfold cutS; rw [if_pos h]; simp only [Int.toNat_natCast, hd]
  rw [hcw]
  generalize cutTo k v d d.width = d' at *
  subst hB
  refine vc_cut (fun st => d'.none = false ∧ gt st.sl 0 = .ptr 0 1 0 0 ∧ gt st.sl 3 = .ptr 3 1 0 0 ∧ gt st.sl 6 = .ptr 4 1 0 0 ∧ st.hp = U s T ++ [.mem false [] [[V.i k, V.i i, V.i v]], .mem false [] [d'.row]]) ?_ ?_
  · have hne : d'.none = (decide (d'.a = 0) && decide (d'.b = 0)) := rfl
    simp [h0, h3, h6, Dom.row, U, dom_Store_Cut.rs, V.ids, V.idsL]
    have hni : d'.none = true ↔ (d'.a = 0 ∧ d'.b = 0) := by simp [Dom.none]
    refine ⟨fun a b => ?_, fun hh => ?_⟩
    · have := hni.2 ⟨a, b⟩
      simp [this]
    · rw [Bool.eq_false_iff]
      intro e
      exact hh (hni.1 e).1 (hni.1 e).2
  clear h0 h3 h6
  rintro ⟨sl, hp, bs⟩ ⟨hn, h0, h3, h6, rfl⟩
  simp [h0, h3, h6, Dom.row, U, dom_Store_Cut.rs, V.ids, V.idsL, hn, hi, hds]
  rw [Bool.eq_iff_iff]
  simp [Dom.same]
  omega
end Go.Abs.G


namespace Go.Abs.G
open Go.Proofs
set_option linter.unusedVariables false
set_option linter.unusedSimpArgs false
attribute [local simp] I.vc

/-- A nil slice told as a slice without elements. -/
theorem DC.nilv {P : Program} {f : FuncId} {xs : List V} {H : Heap} {Q Q' : V → Heap → Prop} (es : Nat) (h : DC P f xs H Q) (hq : ∀ x H', Q x H' → Q' x H' ∨ (x = .a (.slice none 0 0) ∧ Q' (.view es []) H')) : DC P f xs H Q' := fun w β F vs hk hr =>
  (h w β F vs hk hr).mono fun e w' ⟨r, x, H', β2, h1, h2, h3, h4⟩ => by
    rcases hq x H' h4 with hQ | ⟨rfl, hQ⟩
    · exact ⟨r, x, H', β2, h1, h2, h3, hQ⟩
    · cases h3 with
      | a => exact ⟨_, .view es [], H', β2, h1, h2, .nilv, hQ⟩

def Dom.vals (d : Dom) (n : Nat) : List Int := ((List.range n).filter d.has).map fun i => d.from' + (i : Nat)
def valsB (s : List Dom) (x : Int) : List Int := if isB s x then ((s[x.toNat]?).map fun d => d.vals d.width).getD [] else []
theorem vals_succ (d : Dom) (n : Nat) : d.vals (n + 1) = if d.has n then d.vals n ++ [d.from' + n] else d.vals n := by
  unfold Dom.vals
  rw [List.range_succ, List.filter_append, List.map_append]
  cases h : d.has n <;> simp [h]
theorem vals_len (d : Dom) (n : Nat) : (d.vals n).length ≤ n := by
  unfold Dom.vals
  rw [List.length_map]
  exact Nat.le_trans (List.length_filter_le _ _) (by simp)

section
variable {s s' : List Dom} {T T' : List (List Ce)} {E : Heap}
@[simp] theorem U_take6 (a b c : O) : List.take 6 (U s T ++ (a :: b :: c :: E)) = U s T ++ [a, b, c] := rfl
@[simp] theorem U_take6' (a : O) : List.take 6 (U s T ++ [a]) = U s T ++ [a] := rfl
@[simp] theorem U_lim6 : (U s T).map (limO 6) = U s T := rfl
@[simp] theorem UE_5 (a b c : O) : (U s T ++ (a :: b :: c :: E))[5]? = some c := rfl
@[simp] theorem UE_5' (a b c : O) (h) : (U s T ++ (a :: b :: c :: E))[5]'h = c := rfl
@[simp] theorem UE_set5 (a b c o' : O) : (U s T ++ (a :: b :: c :: E)).set 5 o' = U s T ++ (a :: b :: o' :: E) := rfl
end

theorem values_spec {s : List Dom} {T : List (List Ce)} (hs : StOk s T) (x : Int) : DC Tryz.prog dom_Store_Values.id [.ptr 0 1 0 0, V.i x] (U s T) (fun r H => r = vInts (valsB s x) ∧ H = U s T) := by
  refine trimU (S' := fun _ => s) (T' := fun _ => T) (Q := fun r => r = vInts (valsB s x)) ?_
  refine DC.nilv (Q := fun r H' => (∀ i ∈ r.ids, i < 3) ∧ (r = vInts (valsB s x) ∨ r = .a (.slice none 0 0) ∧ valsB s x = []) ∧ ∃ E, H' = U s T ++ E) 1 ?_ ?_
  rotate_left
  · rintro r H' ⟨h1, h2 | ⟨h2, h4⟩, h3⟩
    · exact .inl ⟨h1, h2, h3⟩
    · refine .inr ⟨h2, by simp [V.ids], ?_, h3⟩
      rw [h4]; rfl
  refine DC.of dom_Store_Values.ok (by simp) ?_
  unfold dom_Store_Values.ir
  refine vc_cut (fun st => gt st.sl 0 = .ptr 0 1 0 0 ∧ gt st.sl 1 = V.i x ∧ st.hp = U s T) (by simp) ?_
  rintro ⟨sl, hp, bs⟩ ⟨h0, h1, rfl⟩
  refine vc_cut (fun st => isB s x = true ∧ gt st.sl 0 = .ptr 0 1 0 0 ∧ gt st.sl 1 = V.i x ∧ st.hp = U s T) ?_ ?_
  · simp [h0, h1, V.idsL, V.ids, U_sub hs.t, U_sel]
    refine DC.mono (isS_spec hs x) ?_
    rintro r H ⟨rfl, rfl⟩
    cases h : isB s x
    · have : valsB s x = [] := by simp [valsB, h]
      simp [U_merge hs.t, dom_Store_Values.rs, V.ids, this]
    · simp [U_merge hs.t, dom_Store_Values.rs]
  clear h0 h1
  rintro ⟨sl, hp, bs⟩ ⟨h, h0, h1, rfl⟩
  obtain ⟨i, d, rfl, hi, hd, hok, hr⟩ := hs.row h
  have hds : s[i] = d := by rw [List.getElem?_eq_getElem hi] at hd; injection hd
  have f1 := hok.f
  have f2 := hok.w
  have hB : valsB s i = d.vals d.width := by simp [valsB, h, hd]
  rw [hB]
  refine vc_cut (fun st => gt st.sl 5 = .a (.slice none 0 0) ∧ gt st.sl 0 = .ptr 0 1 0 0 ∧ gt st.sl 1 = V.i i ∧ st.hp = U s T) (by simp [h0, h1]) ?_
  clear h0 h1
  rintro ⟨sl, hp, bs⟩ ⟨h5, h0, h1, rfl⟩
  refine vc_cut (fun st => gt st.sl 5 = .a (.slice none 0 0) ∧ gt st.sl 6 = .ptr 3 1 0 0 ∧ st.hp = U s T ++ [.mem false [] [d.row]]) ?_ ?_
  · simp [h0, h1, h5, hi, hds, U]
  clear h0 h1 h5
  rintro ⟨sl, hp, bs⟩ ⟨h5, h6, rfl⟩
  refine vc_cut (fun st => (gt st.sl 5 = .a (.slice none 0 0) ∧ st.hp = U s T ++ [.mem false [] [d.row]] ∧ d.vals d.width = []) ∨ (gt st.sl 5 = .own 5 1 0 (d.vals d.width).length (d.vals d.width).length ∧ st.hp = U s T ++ [.mem false [] [d.row], .res, .mem false [] ((d.vals d.width).map fun n => [V.i n])])) ?_ ?_
  · simp [h5, h6]
    refine WI.mono (Q := fun e st => e = .exit 0 ∧ ((gt st.sl 5 = .a (.slice none 0 0) ∧ st.hp = U s T ++ [.mem false [] [d.row]] ∧ d.vals d.width = []) ∨ (gt st.sl 5 = .own 5 1 0 (d.vals d.width).length (d.vals d.width).length ∧ st.hp = U s T ++ [.mem false [] [d.row], .res, .mem false [] ((d.vals d.width).map fun n => [V.i n])])))
      (WI.loop 6 (by simp) (fun st => ∃ j, j ≤ d.width ∧ gt st.sl 6 = .ptr 3 1 0 0 ∧ gt st.sl 20 = V.i d.width ∧ gt st.sl 21 = V.i j ∧ ((gt st.sl 5 = .a (.slice none 0 0) ∧ st.hp = U s T ++ [.mem false [] [d.row]] ∧ d.vals j = []) ∨ (gt st.sl 5 = .own 5 1 0 (d.vals j).length (d.vals j).length ∧ st.hp = U s T ++ [.mem false [] [d.row], .res, .mem false [] ((d.vals j).map fun n => [V.i n])]))) (fun st => (d.width - (gt st.sl 21).num).toNat) ?_ ?_) ?_
    · exact ⟨0, by simp [h5, h6, Dom.vals]⟩
    · clear h5 h6
      rintro ⟨sl, hp, bs⟩ ⟨j, hj, h6, h20, h21, h5⟩
      by_cases hjl : j < d.width
      · have hw : IntKind.i64.wrap ((j : Int) + 1) = ((j + 1 : Nat) : Int) := by rw [wrap64] <;> omega
        have hw2 : IntKind.i64.wrap (d.from' + j) = d.from' + j := by rw [wrap64] <;> omega
        have hh := has_spec (rows := [d.row]) (d := d) (x := 0) (k := j) rfl hok (by omega)
        have hv := vals_succ d j
        have hvl := vals_len d j
        rcases h5 with ⟨h5, rfl, hnil⟩ | ⟨h5, rfl⟩
        · simp [dom_Store_Values.b0, h5, h6, h20, h21, hjl, hw, hw2, UE1_clos, UE1_sel, UE1_sub, V.idsL, V.ids] at hh ⊢
          refine DC.mono hh ?_
          rintro r H ⟨rfl, rfl⟩
          cases hg : d.has j
          · simp [UE1_merge]
            exact ⟨⟨j + 1, by omega, by omega, by rw [hv, hg]; exact hnil⟩, by omega⟩
          · simp [UE1_merge]
            exact ⟨⟨j + 1, by omega, by omega, by simp [hv, hg, hnil, hw2]⟩, by omega⟩
        · simp [dom_Store_Values.b0, h5, h6, h20, h21, hjl, hw, hw2, UE1_clos, UE1_sel, UE1_sub, V.idsL, V.ids] at hh ⊢
          refine DC.mono hh ?_
          rintro r H ⟨rfl, rfl⟩
          cases hg : d.has j
          · simp [UE1_merge]
            exact ⟨⟨j + 1, by omega, by omega, by simp [hv, hg]⟩, by omega⟩
          · simp [UE1_merge]
            exact ⟨by omega, ⟨j + 1, by omega, by omega, by simp [hv, hg, hw2]⟩, by omega⟩
      · obtain rfl : j = d.width := by omega
        simp [dom_Store_Values.b0, h6, h20, h21]
        exact h5
    · rintro e ⟨sl, hp, bs⟩ ⟨rfl, h5⟩
      simpa using h5
  clear h5 h6
  rintro ⟨sl, hp, bs⟩ (⟨h5, rfl, hnil⟩ | ⟨h5, rfl⟩)
  · simp [h5, hnil, dom_Store_Values.rs, V.ids, V.nilSl, vInts]
  · simp [h5, dom_Store_Values.rs, V.ids, V.nilSl, vInts]
    exact List.take_of_length_le (by simp)

theorem valsB_len {s : List Dom} {T : List (List Ce)} (hs : StOk s T) (x : Int) : (valsB s x).length ≤ 64 := by
  unfold valsB
  split
  · cases h : s[x.toNat]? with
    | none => simp
    | some d => exact Nat.le_trans (vals_len d d.width) (hs.d d (List.mem_of_getElem? h)).w
  · simp

theorem lo_spec {s : List Dom} {T : List (List Ce)} (hs : StOk s T) (x : Int) (hne : isB s x = true → valsB s x ≠ []) : DC Tryz.prog dom_Store_Lo.id [.ptr 0 1 0 0, V.i x] (U s T) (fun r H => r = V.i (if isB s x then (valsB s x).headD 0 else 0) ∧ H = U s T) := by
  refine DC.of dom_Store_Lo.ok (by simp) ?_
  unfold dom_Store_Lo.ir
  refine vc_cut (fun st => gt st.sl 0 = .ptr 0 1 0 0 ∧ gt st.sl 1 = V.i x ∧ st.hp = U s T) (by simp) ?_
  rintro ⟨sl, hp, bs⟩ ⟨h0, h1, rfl⟩
  refine vc_cut (fun st => isB s x = true ∧ gt st.sl 0 = .ptr 0 1 0 0 ∧ gt st.sl 1 = V.i x ∧ st.hp = U s T) ?_ ?_
  · simp [h0, h1, V.idsL, V.ids, U_sub hs.t, U_sel]
    refine DC.mono (isS_spec hs x) ?_
    rintro r H ⟨rfl, rfl⟩
    cases h : isB s x <;> simp [U_merge hs.t, dom_Store_Lo.rs]
  clear h0 h1
  rintro ⟨sl, hp, bs⟩ ⟨h, h0, h1, rfl⟩
  have hn := hne h
  simp [h0, h1, h, V.idsL, V.ids, U_sub hs.t, U_sel]
  refine DC.mono (values_spec hs x) ?_
  rintro r H ⟨rfl, rfl⟩
  obtain ⟨a, l, hl⟩ := List.exists_cons_of_ne_nil hn
  simp [U_merge hs.t, dom_Store_Lo.rs, hl, vInts]
theorem hi_spec {s : List Dom} {T : List (List Ce)} (hs : StOk s T) (x : Int) (hne : isB s x = true → valsB s x ≠ []) : DC Tryz.prog dom_Store_Hi.id [.ptr 0 1 0 0, V.i x] (U s T) (fun r H => r = V.i (if isB s x then (valsB s x).getLastD 0 else 0) ∧ H = U s T) := by
  refine DC.of dom_Store_Hi.ok (by simp) ?_
  unfold dom_Store_Hi.ir
  refine vc_cut (fun st => gt st.sl 0 = .ptr 0 1 0 0 ∧ gt st.sl 1 = V.i x ∧ st.hp = U s T) (by simp) ?_
  rintro ⟨sl, hp, bs⟩ ⟨h0, h1, rfl⟩
  refine vc_cut (fun st => isB s x = true ∧ gt st.sl 0 = .ptr 0 1 0 0 ∧ gt st.sl 1 = V.i x ∧ st.hp = U s T) ?_ ?_
  · simp [h0, h1, V.idsL, V.ids, U_sub hs.t, U_sel]
    refine DC.mono (isS_spec hs x) ?_
    rintro r H ⟨rfl, rfl⟩
    cases h : isB s x <;> simp [U_merge hs.t, dom_Store_Hi.rs]
  clear h0 h1
  rintro ⟨sl, hp, bs⟩ ⟨h, h0, h1, rfl⟩
  have hn := hne h
  simp [h0, h1, h, V.idsL, V.ids, U_sub hs.t, U_sel]
  refine DC.mono (values_spec hs x) ?_
  rintro r H ⟨rfl, rfl⟩
  have hlen := valsB_len hs x
  have hpos : 0 < (valsB s x).length := List.length_pos_iff.2 hn
  have hw : IntKind.i64.wrap (((valsB s x).length : Int) - 1) = (((valsB s x).length - 1 : Nat) : Int) := by rw [wrap64] <;> omega
  have hlt : (valsB s x).length - 1 < (valsB s x).length := by omega
  simp [U_merge hs.t, dom_Store_Hi.rs, vInts, hw, hlt, List.getLast?_eq_getElem?]
end Go.Abs.G

