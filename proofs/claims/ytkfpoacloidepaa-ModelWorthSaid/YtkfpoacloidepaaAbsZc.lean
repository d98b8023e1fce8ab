import Derived.Test.YtkfpoacloidepaaAbsZb
set_option linter.all false
/- A value told otherwise; arguments that are told otherwise. -/
namespace Go.Abs

/-- What is so is also so. -/
def V.sub (x y : V) : Prop := ∀ (c : Cx) (v : Value), RV c v x → RV c v y
def V.subL (xs ys : List V) : Prop := xs.length = ys.length ∧ ∀ (i : Nat) (x y : V), xs[i]? = some x → ys[i]? = some y → x.sub y

theorem V.sub.refl (x : V) : x.sub x := fun _ _ h => h
theorem V.sub.nil (es : Nat) : (V.a (.slice none 0 0)).sub (.view es []) := fun c v h => by rw [h.of_a]; exact .nilv
theorem V.subL.nil : V.subL [] [] := ⟨rfl, fun i x y h => by simp at h⟩
theorem V.subL.cons {x y : V} {xs ys : List V} (h : x.sub y) (hs : V.subL xs ys) : V.subL (x :: xs) (y :: ys) := by
  refine ⟨by simp [hs.1], fun i u w h1 h2 => ?_⟩
  cases i with
  | zero => simp at h1 h2; subst h1; subst h2; exact h
  | succ i => exact hs.2 i u w (by simpa using h1) (by simpa using h2)
theorem V.subL.refl (xs : List V) : V.subL xs xs := ⟨rfl, fun i x y h1 h2 => by rw [h1] at h2; injection h2 with h2; subst h2; exact .refl _⟩
theorem V.sub.agg {xs ys : List V} (h : V.subL xs ys) : (V.agg xs).sub (.agg ys) := by
  intro c v hr
  cases hr with
  | agg hl h1 h2 =>
    refine .agg (by rw [hl]; exact h.1) h1 fun i v y hv hy => ?_
    have hi : i < xs.length := by rw [h.1]; exact lt_of_get hy
    exact h.2 i _ y (List.getElem?_eq_getElem hi) hy _ _ (h2 i v _ hv (List.getElem?_eq_getElem hi))

theorem DC.sub {P : Program} {f : FuncId} {xs ys : List V} {H : Heap} {Q : V → Heap → Prop} (hs : V.subL xs ys) (h : DC P f ys H Q) : DC P f xs H Q := by
  intro w β F vs hk hr
  refine h w β F vs hk ⟨by rw [hr.1]; exact hs.1, fun i v y hv hy => ?_⟩
  have hi : i < xs.length := by rw [hs.1]; exact lt_of_get hy
  exact hs.2 i _ y (List.getElem?_eq_getElem hi) hy _ _ (hr.2 i v _ hv (List.getElem?_eq_getElem hi))

theorem DP.sub {P : Program} {f : FuncId} {xs ys : List V} {Q : V → Prop} (hs : V.subL xs ys) (h : DP P f ys Q) : DP P f xs Q := DC.sub hs h

/-! Calls whose sequel stays as it is until the call is met. -/
class Fix {α : Type} (x : α) where
instance {α : Type} (x : α) : Fix x := ⟨⟩

def DPf (P : Program) (f : FuncId) (xs : List V) (Q : V → Prop) [Fix Q] : Prop := DP P f xs Q
def DCf (P : Program) (f : FuncId) (xs : List V) (H : Heap) (Q : V → Heap → Prop) [Fix Q] : Prop := DC P f xs H Q
def WIf (P : Program) (c : C) (Q : Ex → St → Prop) (st : St) [Fix Q] : Prop := WI P c Q st

section
variable {P : Program} {d : Option Nat} {fv : Operand} {xs : List Operand} {k : St → Prop} {st : St} {f : FuncId} {fs cs : List V}
theorem call_f : I.vc P (.call d f xs) k st = (V.idsL (xs.map st.ev) = [] ∧ DPf P f (xs.map st.ev) (fun r => k (st.put d r))) := rfl
theorem callv_f (h : st.ev fv = .fn (.func f) fs cs) : I.vc P (.callv d fv xs) k st = (okFunc P f = true ∧ V.idsL (fs ++ xs.map st.ev ++ cs) = [] ∧ DPf P f (fs ++ xs.map st.ev ++ cs) (fun r => k (st.put d r))) := by
  simp only [I.vc, h]; rfl
theorem callb_f (h : st.ev fv = .fn (.func f) fs cs) : I.vc P (.callb d fv xs) k st = (okFunc P f = true ∧ V.fzPL st.hp (fs ++ xs.map st.ev ++ cs) ∧ DPf P f (V.fzL st.hp (fs ++ xs.map st.ev ++ cs)) (fun r => r.flat = true ∧ k (st.put d r))) := by
  simp only [I.vc, h]; rfl
theorem callo_f (h : st.ev fv = .fn (.func f) fs cs) : I.vc P (.callo d fv xs) k st = (okFunc P f = true ∧ V.idsL (fs ++ xs.map st.ev ++ cs) = [] ∧ DCf P f (fs ++ xs.map st.ev ++ cs) [] (fun r H' => k ({ st with hp := st.hp ++ H'.map (O.ren (st.hp.length + ·)) }.put d (r.ren (st.hp.length + ·))))) := by
  simp only [I.vc, h]; rfl
theorem callb_fn : I.vc P (.callb d (.func f) xs) k st = (okFunc P f = true ∧ V.fzPL st.hp (xs.map st.ev) ∧ DPf P f (V.fzL st.hp (xs.map st.ev)) (fun r => r.flat = true ∧ k (st.put d r))) := by
  rw [callb_f (f := f) (fs := []) (cs := []) rfl]; simp only [List.nil_append, List.append_nil]
theorem callo_fn : I.vc P (.callo d (.func f) xs) k st = (okFunc P f = true ∧ V.idsL (xs.map st.ev) = [] ∧ DCf P f (xs.map st.ev) [] (fun r H' => k ({ st with hp := st.hp ++ H'.map (O.ren (st.hp.length + ·)) }.put d (r.ren (st.hp.length + ·))))) := by
  rw [callo_f (f := f) (fs := []) (cs := []) rfl]; simp only [List.nil_append, List.append_nil]
theorem loop_f {c : C} {Q : Ex → St → Prop} : vc P (.loop c) Q st = WIf P (.loop c) Q st := rfl
end
end Go.Abs
