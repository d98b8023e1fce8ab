import Derived.Test.YtkfpoacloidepaaAbsU
set_option linter.all false
/- Words for the evaluation of functions. -/
namespace Go.Abs
set_option linter.unusedVariables false

section
variable {P : Program} {Q : Ex → St → Prop} {st : St} {x : Operand} {a b : C} {k : St → Prop} {l : List It} {j t : Nat} {want : Bool} {d : Option Nat} {i : I}
@[simp ↓ high] theorem vc_cond_true (h : st.ev x = .a (.bool true)) : vc P (.cond x a b) Q st = vc P a Q st := by simp only [vc, h]; simp
@[simp ↓ high] theorem vc_cond_false (h : st.ev x = .a (.bool false)) : vc P (.cond x a b) Q st = vc P b Q st := by simp only [vc, h]; simp
@[simp ↓ high] theorem vcIts_gd_pos (h : gt st.sl t = .a (.bool want)) : vcIts P (.gd j t want d i :: l) k st = i.vc P (vcIts P l k) { st with sl := up st.sl t (.bool want) } := by simp only [vcIts, h]; cases want <;> simp
@[simp ↓ high] theorem vcIts_gd_neg (h : gt st.sl t = .a (.bool (!want))) : vcIts P (.gd j t want d i :: l) k st = vcIts P l k ({ st with sl := up st.sl t (.bool !want) }.put d (.a undef)) := by simp only [vcIts, h]; cases want <;> simp
@[simp ↓ high] theorem vcIts_gd_un (h : gt st.sl t = .a (.tuple #[])) : vcIts P (.gd j t want d i :: l) k st = vcIts P l k (st.put d (.a undef)) := by simp only [vcIts, h]
end

attribute [simp] vc vcIts I.vc L.pre L.val St.ev cv gt_up gt_e0 keepS St.put St.res binV binP binI binIP V.isBool V.isInt V.num V.tru V.fzP V.fz V.kindOf okNil okAt O.isMem O.isMap O.rows O.refs O.ents V.plus ldP ldV cellsAt
  V.sized V.one Value.oneCell' rowSet addRefs V.idsL V.ids V.cells okSl V.slEs V.slLen V.elemAt V.isStr V.txt V.entsOf okMp isK eqK V.nilK okZ V.rowsOf V.rowIds chunk fillV V.oid V.nilSl V.cut optN optP initS
  resP resV Rs.ok Rs.val V.fzPL V.fzL trimS_up trimS_e0 lim binS binSP St.trim limO O.fz Heap.fz mxI putE V.isByte

attribute [simp] undef addAll idx back sub merge place V.renL V.ren O.ren V.flat V.flatL

@[congr] theorem vc_congr {P : Program} {c : C} {Q : Ex → St → Prop} {st st' : St} (h : st = st') : vc P c Q st = vc P c Q st' := by rw [h]
@[congr] theorem vcIts_congr {P : Program} {l : List It} {k : St → Prop} {st st' : St} (h : st = st') : vcIts P l k st = vcIts P l k st' := by rw [h]
@[congr] theorem Ivc_congr {P : Program} {i : I} {k : St → Prop} {st st' : St} (h : st = st') : i.vc P k st = i.vc P k st' := by rw [h]
@[congr] theorem WI_congr {P : Program} {c : C} {Q : Ex → St → Prop} {st st' : St} (h : st = st') : WI P c Q st = WI P c Q st' := by rw [h]
@[congr] theorem DP_congr {P : Program} {f : FuncId} {Q : V → Prop} {xs xs' : List V} (h : xs = xs') : DP P f xs Q = DP P f xs' Q := by rw [h]
@[congr] theorem DC_congr {P : Program} {f : FuncId} {Q : V → Heap → Prop} {xs xs' : List V} {H H' : Heap} (h : xs = xs') (hh : H = H') : DC P f xs H Q = DC P f xs' H' Q := by rw [h, hh]

theorem addAll_sub : ∀ (is l : List Nat), (∀ i ∈ is, i ∈ l) → addAll l is = l := by
  intro is
  induction is with
  | nil => intro l _; rfl
  | cons i is ih =>
    intro l h
    simp only [addAll]
    rw [if_pos (h i (by simp))]
    exact ih l fun k hk => h k (by simp [hk])

@[simp] theorem clos_stop (H : Heap) (n : Nat) (l : List Nat) (h : ∀ i ∈ l, ∀ k ∈ (H.getD i .dead).refs, k ∈ l) : clos H n l = l := by
  induction n with
  | zero => rfl
  | succ n ih =>
    simp only [clos]
    rw [addAll_sub _ _ fun i hi => ?_]
    · exact ih
    · obtain ⟨j, hj, hi⟩ := List.mem_flatMap.1 hi
      exact h j hj i hi

@[simp] theorem okSel_iff (H : Heap) (sel : List Nat) : OkSel H sel ↔ sel.Nodup ∧ (∀ i ∈ sel, i < H.length) ∧ (∀ i ∈ sel, H.getD i .dead ≠ .res) ∧ ∀ i ∈ sel, ∀ k ∈ (H.getD i .dead).refs, k ∈ sel :=
  ⟨fun h => ⟨h.nd, h.lt, h.nres, h.cl⟩, fun h => ⟨h.1, h.2.1, h.2.2.1, h.2.2.2⟩⟩

theorem wrap64 {n : Int} (h1 : -9223372036854775808 ≤ n) (h2 : n ≤ 9223372036854775807) : IntKind.i64.wrap n = n := by
  show (if (true && decide (n % 18446744073709551616 ≥ 9223372036854775808)) = true then n % 18446744073709551616 - 18446744073709551616 else n % 18446744073709551616) = n
  simp only [Bool.true_and, decide_eq_true_eq]
  split <;> omega

end Go.Abs
