import Derived.Test.YtclcciajmfocmaaGreatHl2
import Derived.Test.YtclcciajmfocmaaGreatProg
import Derived.KernelRfl
import GoSem.ClaimChange
import GoSem.ClaimJoined
import Derived.Below
set_option linter.all false
/- A cut: what stands between two pieces of code. -/
namespace Go.Abs
attribute [local simp] I.vc sub merge place

@[simp] theorem gt_trimS (n : Nat) (l : Sl) (t : Nat) : gt (trimS n l) t = lim n (gt l t) := rfl

theorem vcIts_mono' {P : Program} {K K' : St → Prop} (hk : ∀ s, K s → K' s) : ∀ {l : List It} {st : St}, vcIts P l K st → vcIts P l K' st := by
  intro l
  induction l with
  | nil => intro st h; exact hk _ h
  | cons it l ih =>
    intro st h
    cases it with
    | g i => exact I.vc_mono h fun s => ih
    | o j i => exact I.vc_mono h fun s => ih
    | gd j s want d i =>
      simp only [vcIts] at h ⊢
      split at h
      · next b e => exact ⟨fun hb => I.vc_mono (h.1 hb) fun s => ih, fun hb => ih (h.2 hb)⟩
      · next e => exact ih h
      · exact h.elim

theorem vc_mono {P : Program} : ∀ {c : C} {Q Q' : Ex → St → Prop} {st : St}, (∀ e s, Q e s → Q' e s) → vc P c Q st → vc P c Q' st := by
  intro c
  induction c with
  | skip => intro Q Q' st hq h; exact hq _ _ h
  | reg n its => intro Q Q' st hq h; exact vcIts_mono' (fun s => hq _ s) h
  | seq a b iha ihb =>
    intro Q Q' st hq h
    refine iha (fun e s hs => ?_) h
    cases e with
    | norm => exact ihb hq hs
    | exit i => exact hq _ _ hs
    | ret => exact hq _ _ hs
  | cond x a b iha ihb =>
    intro Q Q' st hq h
    simp only [vc] at h ⊢
    split at h
    · exact ⟨fun ht => iha hq (h.1 ht), fun ht => ihb hq (h.2 ht)⟩
    · exact h.elim
  | block id c ih =>
    intro Q Q' st hq h
    refine ih (fun e s hs => ?_) h
    cases e with
    | norm => exact hq _ _ hs
    | exit i =>
      simp only at hs ⊢
      by_cases hi : i = id
      · rw [if_pos hi] at hs ⊢; exact hq _ _ hs
      · rw [if_neg hi] at hs ⊢; exact hq _ _ hs
    | ret => exact hq _ _ hs
  | loop c ih => intro Q Q' st hq h; exact WI.mono h hq
  | exit i => intro Q Q' st hq h; exact hq _ _ h
  | ret => intro Q Q' st hq h; exact hq _ _ h

theorem vc_cut {P : Program} {a b : C} {Q : Ex → St → Prop} {st : St} (R : St → Prop) (h1 : vc P a (fun e s => match e with | .norm => R s | .exit i => Q (.exit i) s | .ret => Q .ret s) st) (h2 : ∀ s, R s → vc P b Q s) : vc P (.seq a b) Q st := by
  show vc P a _ st
  refine vc_mono (fun e s hs => ?_) h1
  cases e with
  | norm => exact h2 s hs
  | exit i => exact hs
  | ret => exact hs

theorem vcIts_cut {P : Program} {K : St → Prop} {l : List It} {st : St} (n : Nat) (R : St → Prop) (h1 : vcIts P (l.take n) R st) (h2 : ∀ s, R s → vcIts P (l.drop n) K s) : vcIts P l K st := by
  rw [← List.take_append_drop n l, vcIts_append]
  exact vcIts_mono' h2 h1

theorem vc_reg_of {P : Program} {n : Nat} {its : List It} {Q : Ex → St → Prop} {st : St} (h : vcIts P its (Q .norm) (st.res n)) : vc P (.reg n its) Q st := h

theorem vc_block_of {P : Program} {id : Nat} {c : C} {Q : Ex → St → Prop} {st : St} (h : vc P c (fun e s => match e with | .norm => Q .norm s | .exit i => if i = id then Q .norm s else Q (.exit i) s | .ret => Q .ret s) st) : vc P (.block id c) Q st := h
end Go.Abs

/- A value told otherwise; arguments that are told otherwise. -/
namespace Go.Abs
attribute [local simp] I.vc sub merge place

/-- What is so is also so. -/
def V.sub (x y : V) : Prop := ∀ (c : Cx) (v : Value), RV c v x → RV c v y
def V.subL (xs ys : List V) : Prop := xs.length = ys.length ∧ ∀ (i : Nat) (x y : V), xs[i]? = some x → ys[i]? = some y → x.sub y

theorem V.sub.refl (x : V) : x.sub x := fun _ _ h => h
theorem V.sub.nil (es : Nat) : (V.a (.slice none 0 0)).sub (.view es []) := fun c v h => by rw [h.of_a]; exact .nilv
theorem V.subL.nil : V.subL [] [] := ⟨rfl, fun i x y h => by simp at h⟩
theorem V.subL.cons {x y : V} {xs ys : List V} (h : x.sub y) (hs : V.subL xs ys) : V.subL (x :: xs) (y :: ys) := by
  refine ⟨by simp [hs.1], fun i u w h1 h2 => ?_⟩
  cases i with
  | zero => simp at h1 h2; subst h1; subst h2; exact h
  | succ i => exact hs.2 i u w (by simpa using h1) (by simpa using h2)
theorem V.subL.refl (xs : List V) : V.subL xs xs := ⟨rfl, fun i x y h1 h2 => by rw [h1] at h2; injection h2 with h2; subst h2; exact .refl _⟩
theorem V.sub.agg {xs ys : List V} (h : V.subL xs ys) : (V.agg xs).sub (.agg ys) := by
  intro c v hr
  cases hr with
  | agg hl h1 h2 =>
    refine .agg (by rw [hl]; exact h.1) h1 fun i v y hv hy => ?_
    have hi : i < xs.length := by rw [h.1]; exact lt_of_get hy
    exact h.2 i _ y (List.getElem?_eq_getElem hi) hy _ _ (h2 i v _ hv (List.getElem?_eq_getElem hi))

theorem DC.sub {P : Program} {f : FuncId} {xs ys : List V} {H : Heap} {Q : V → Heap → Prop} (hs : V.subL xs ys) (h : DC P f ys H Q) : DC P f xs H Q := by
  intro w β F vs hk hr
  refine h w β F vs hk ⟨by rw [hr.1]; exact hs.1, fun i v y hv hy => ?_⟩
  have hi : i < xs.length := by rw [hs.1]; exact lt_of_get hy
  exact hs.2 i _ y (List.getElem?_eq_getElem hi) hy _ _ (hr.2 i v _ hv (List.getElem?_eq_getElem hi))

theorem DP.sub {P : Program} {f : FuncId} {xs ys : List V} {Q : V → Prop} (hs : V.subL xs ys) (h : DP P f ys Q) : DP P f xs Q := DC.sub hs h

/-! Calls whose sequel stays as it is until the call is met. -/
class Fix {α : Type} (x : α) where
instance {α : Type} (x : α) : Fix x := ⟨⟩

def DPf (P : Program) (f : FuncId) (xs : List V) (Q : V → Prop) [Fix Q] : Prop := DP P f xs Q
def DCf (P : Program) (f : FuncId) (xs : List V) (H : Heap) (Q : V → Heap → Prop) [Fix Q] : Prop := DC P f xs H Q
def WIf (P : Program) (c : C) (Q : Ex → St → Prop) (st : St) [Fix Q] : Prop := WI P c Q st

section
variable {P : Program} {d : Option Nat} {fv : Operand} {xs : List Operand} {k : St → Prop} {st : St} {f : FuncId} {fs cs : List V}
theorem call_f : I.vc P (.call d f xs) k st = (V.idsL (xs.map st.ev) = [] ∧ DPf P f (xs.map st.ev) (fun r => k (st.put d r))) := rfl
theorem callb_f (h : st.ev fv = .fn (.func f) fs cs) : I.vc P (.callb d fv xs) k st = (okFunc P f = true ∧ V.fzPL st.hp (fs ++ xs.map st.ev ++ cs) ∧ DPf P f (V.fzL st.hp (fs ++ xs.map st.ev ++ cs)) (fun r => r.flat = true ∧ k (st.put d r))) := by
  simp only [I.vc, h]; rfl
theorem callo_f (h : st.ev fv = .fn (.func f) fs cs) : I.vc P (.callo d fv xs) k st = (okFunc P f = true ∧ V.idsL (fs ++ xs.map st.ev ++ cs) = [] ∧ DCf P f (fs ++ xs.map st.ev ++ cs) [] (fun r H' => k ({ st with hp := st.hp ++ H'.map (O.ren (st.hp.length + ·)) }.put d (r.ren (st.hp.length + ·))))) := by
  simp only [I.vc, h]; rfl
theorem callb_fn : I.vc P (.callb d (.func f) xs) k st = (okFunc P f = true ∧ V.fzPL st.hp (xs.map st.ev) ∧ DPf P f (V.fzL st.hp (xs.map st.ev)) (fun r => r.flat = true ∧ k (st.put d r))) := by
  rw [callb_f (f := f) (fs := []) (cs := []) rfl]; simp only [List.nil_append, List.append_nil]
theorem callo_fn : I.vc P (.callo d (.func f) xs) k st = (okFunc P f = true ∧ V.idsL (xs.map st.ev) = [] ∧ DCf P f (xs.map st.ev) [] (fun r H' => k ({ st with hp := st.hp ++ H'.map (O.ren (st.hp.length + ·)) }.put d (r.ren (st.hp.length + ·))))) := by
  rw [callo_f (f := f) (fs := []) (cs := []) rfl]; simp only [List.nil_append, List.append_nil]
theorem loop_f {c : C} {Q : Ex → St → Prop} : vc P (.loop c) Q st = WIf P (.loop c) Q st := rfl
end
end Go.Abs

/- A call of a function that is handed objects, by its constant. -/
namespace Go.Abs
attribute [local simp] I.vc sub merge place
theorem callm_fn {P : Program} {d : Option Nat} {f : FuncId} {xs : List Operand} {k : St → Prop} {st : St} : I.vc P (.callm d (.func f) xs) k st = (okFunc P f = true ∧ OkSel st.hp (clos st.hp 8 (addAll [] (V.idsL (xs.map st.ev)))) ∧
    DCf P f (V.renL (idx (clos st.hp 8 (addAll [] (V.idsL (xs.map st.ev))))) (xs.map st.ev)) (sub st.hp (clos st.hp 8 (addAll [] (V.idsL (xs.map st.ev))))) (fun r H' =>
      k ({ st with hp := merge st.hp (clos st.hp 8 (addAll [] (V.idsL (xs.map st.ev)))) H' }.put d (r.ren (back (clos st.hp 8 (addAll [] (V.idsL (xs.map st.ev)))) st.hp.length))))) := by
  simp only [I.vc, St.ev, List.nil_append, List.append_nil]; rfl
theorem calla_fn {P : Program} {ap : List Nat} {d : Option Nat} {f : FuncId} {xs : List Operand} {k : St → Prop} {st : St} : I.vc P (.calla ap d (.func f) xs) k st = (okFunc P f = true ∧ OkSel st.hp (clos st.hp 8 (addAll [] (V.idsL (xs.map st.ev)))) ∧
    (∀ t ∈ ap, ∀ k, (gt st.sl t).oid = some k → k ∉ clos st.hp 8 (addAll [] (V.idsL (xs.map st.ev)))) ∧
    DCf P f (V.renL (idx (clos st.hp 8 (addAll [] (V.idsL (xs.map st.ev))))) (xs.map st.ev)) (sub st.hp (clos st.hp 8 (addAll [] (V.idsL (xs.map st.ev))))) (fun r H' =>
      k ({ st with hp := merge st.hp (clos st.hp 8 (addAll [] (V.idsL (xs.map st.ev)))) H' }.put d (r.ren (back (clos st.hp 8 (addAll [] (V.idsL (xs.map st.ev)))) st.hp.length))))) := by
  simp only [I.vc, St.ev, List.nil_append, List.append_nil]; rfl
end Go.Abs

/- A state told otherwise; results told otherwise; nil or not. -/
namespace Go.Abs
set_option linter.unusedVariables false
attribute [local simp] I.vc sub merge place

section
variable {w : World} {β : Nat → Hd} {F : Nat → Prop} {H : Heap}

/-- An object's cells told otherwise. -/
theorem adv_cells {id : Nat} {refs refs' : List Nat} {rows rows' : List (List V)} (hk : HOK w.heap H β F) (hid : H[id]? = some (.mem false refs rows)) (hl : rows'.length = rows.length)
    (hrow : ∀ (i : Nat) (row' : List V), rows'[i]? = some row' → ∃ row, rows[i]? = some row ∧ row.length = row'.length ∧ ∀ (j : Nat) (x' : V), row'[j]? = some x' → ∃ x, row[j]? = some x ∧ ∀ v, RV ((cx w.heap H β F).only refs) v x → RV ((cx w.heap H β F).only refs') v x') :
    Adv F w H β w (H.set id (.mem false refs' rows')) β := by
  have hupd : upd β id (β id) = β := by funext k; unfold upd; split <;> simp_all
  obtain ⟨h1, h2, h3⟩ := hk.turn (hp' := w.heap) (o' := .mem false refs' rows') (h' := β id) hid (Nat.le_refl _) (fun _ _ _ => rfl)
    (fun b hb => by unfold ownsB at hb ⊢; rw [get_set hid, upd_same] at hb; rw [hid]; exact .inl hb)
    (by simp) (fun g' hg _ => by
      left; unfold hdOf at hg ⊢; rw [get_set hid, upd_same] at hg; rw [hid]; simp only at hg ⊢; rw [← hl]; exact hg)
    (fun hle => by
      rcases hk.ro id _ hid with hr | ⟨q1, q2, q3, q4, q5, cs, E, fr, q6, q7, q8, q9⟩
      · exact .inl ⟨hr.1, List.length_eq_zero_iff.1 (by rw [hl, hr.2.1]; rfl), hr.2.2⟩
      · refine .inr ⟨q1, by rw [hl]; exact q2, by rw [hl]; exact q3, fun i row' hi => ?_, by simp, cs, E, fr, q6, q7, q8, fun i row' hi hlo j x' hj => ?_⟩
        · obtain ⟨row, a1, a2, _⟩ := hrow i row' hi
          rw [← a2]; exact q4 i row a1
        · obtain ⟨row, a1, a2, a3⟩ := hrow i row' hi
          obtain ⟨x, b1, b2⟩ := a3 j x' hj
          obtain ⟨v, e1, e2, e3⟩ := q9 i row a1 hlo j x b1
          exact ⟨v, e1, e2, (b2 v e3).mono (hle.only _)⟩)
  rw [hupd] at h1 h2
  exact ⟨h1, h2, .refl _ _⟩
end

theorem fz_len (l : List Nat) : ∀ (H : Heap), (H.fz l).length = H.length := by
  induction l with
  | nil => intro H; rfl
  | cons i l ih => intro H; simp [Heap.fz, ih]

theorem getD_fz (l : List Nat) (H : Heap) (k : Nat) : (H.fz l).getD k .dead = if k ∈ l then ((H.getD k .dead).fz) else H.getD k .dead := by
  simp only [List.getD, Heap.fz_get]
  cases H[k]? with
  | none => simp [O.fz]
  | some o => simp only [Option.map_some, Option.getD_some]
theorem rows_fz (l : List Nat) (H : Heap) (k : Nat) : ((H.fz l).getD k .dead).rows = (H.getD k .dead).rows := by
  rw [getD_fz]; split
  · generalize H.getD k .dead = o
    cases o <;> rfl
  · rfl
theorem refs_fz (l : List Nat) (H : Heap) (k : Nat) : ((H.fz l).getD k .dead).refs = (H.getD k .dead).refs := by
  rw [getD_fz]; split
  · generalize H.getD k .dead = o
    cases o <;> rfl
  · rfl
theorem ents_fz (l : List Nat) (H : Heap) (k : Nat) : ((H.fz l).getD k .dead).ents = (H.getD k .dead).ents := by
  rw [getD_fz]; split
  · generalize H.getD k .dead = o
    cases o <;> rfl
  · rfl
theorem isMem_fz (l : List Nat) (H : Heap) (k : Nat) : ((H.fz l).getD k .dead).isMem = (H.getD k .dead).isMem := by
  rw [getD_fz]; split
  · generalize H.getD k .dead = o
    cases o <;> rfl
  · rfl
theorem isMap_fz (l : List Nat) (H : Heap) (k : Nat) : ((H.fz l).getD k .dead).isMap = (H.getD k .dead).isMap := by
  rw [getD_fz]; split
  · generalize H.getD k .dead = o
    cases o <;> rfl
  · rfl
theorem fz_fz (l : List Nat) (H : Heap) : (H.fz l).fz l = H.fz l := by
  apply List.ext_getElem?
  intro k
  rw [Heap.fz_get, Heap.fz_get]
  cases H[k]? with
  | none => rfl
  | some o =>
    simp only [Option.map_some]
    split
    · rw [fz_idem]
    · rfl

mutual
theorem V.fz_fz {l : List Nat} {H : Heap} : ∀ (x : V), x.fz (H.fz l) = x.fz H
  | .any | .a _ | .ref .. | .view .. | .mview _ | .nul _ => rfl
  | .ptr .. => by simp only [V.fz]; rw [rows_fz]
  | .own .. => by simp only [V.fz]; rw [rows_fz]
  | .mp _ => by simp only [V.fz]; rw [ents_fz]
  | .agg cs => by simp only [V.fz]; rw [V.fzL_fz cs]
  | .tup cs => by simp only [V.fz]; rw [V.fzL_fz cs]
  | .fn g fs cs => by simp only [V.fz]; rw [V.fzL_fz fs, V.fzL_fz cs]
  | .ifc t x => by simp only [V.fz]; rw [V.fz_fz x]
theorem V.fzL_fz {l : List Nat} {H : Heap} : ∀ (xs : List V), V.fzL (H.fz l) xs = V.fzL H xs
  | [] => rfl
  | x :: xs => by simp only [V.fzL]; rw [V.fz_fz x, V.fzL_fz xs]
end
mutual
theorem V.fzP_fz {l : List Nat} {H : Heap} : ∀ (x : V), x.fzP H → x.fzP (H.fz l)
  | .any, h | .a _, h | .ref .., h | .view .., h | .mview _, h | .nul _, h => h
  | .ptr .., h => by simp only [V.fzP] at h ⊢; rw [rows_fz, refs_fz, isMem_fz]; exact h
  | .own .., h => by simp only [V.fzP] at h ⊢; rw [rows_fz, refs_fz, isMem_fz]; exact h
  | .mp _, h => by simp only [V.fzP] at h ⊢; rw [refs_fz, isMap_fz]; exact h
  | .agg cs, h => by simp only [V.fzP] at h ⊢; exact V.fzPL_fz cs h
  | .tup cs, h => by simp only [V.fzP] at h ⊢; exact V.fzPL_fz cs h
  | .fn g fs cs, h => by simp only [V.fzP] at h ⊢; exact ⟨V.fzPL_fz fs h.1, V.fzPL_fz cs h.2⟩
  | .ifc t x, h => by simp only [V.fzP] at h ⊢; exact V.fzP_fz x h
theorem V.fzPL_fz {l : List Nat} {H : Heap} : ∀ (xs : List V), V.fzPL H xs → V.fzPL (H.fz l) xs
  | [], h => h
  | x :: xs, h => by simp only [V.fzPL] at h ⊢; exact ⟨V.fzP_fz x h.1, V.fzPL_fz xs h.2⟩
end

/-- What a cell holds is frozen. -/
theorem Weak.frzc {st : St} {id i j : Nat} {refs refs' : List Nat} {rows : List (List V)} {row : List V} {x : V} (hid : st.hp[id]? = some (.mem false refs rows)) (hrow : rows[i]? = some row) (hx : row[j]? = some x) (hp : x.fzP st.hp) (hni : id ∉ x.ids)
    (hrefs : ∀ (i' : Nat) (row' : List V), rows[i']? = some row' → ∀ (j' : Nat) (y : V), row'[j']? = some y → (i' = i ∧ j' = j) ∨ ∀ k ∈ y.ids, k ∈ refs') :
    Weak st { st with hp := (st.hp.fz x.ids).set id (.mem false refs' (rows.set i (row.set j (x.fz st.hp)))) } := by
  refine ⟨rfl, fun k hk => ?_, by simp [fz_len], fun w β F N a hR => ?_⟩
  · show ((st.hp.fz x.ids).set id _)[k]? = _
    have hne : k ≠ id := by rintro rfl; rw [hid] at hk; simp at hk
    rw [getElem?_set_ne' hne, Heap.fz_get, hk]
    simp only [Option.map_some, Option.some.injEq]
    split <;> rfl
  · have hk := hR.hok
    have a1 := adv_fzL (F := F) (w := w) (β := β) x.ids hk
    have hid' : (st.hp.fz x.ids)[id]? = some (.mem false refs rows) := by
      rw [Heap.fz_get, hid]; simp [hni]
    have a2 := adv_cells (refs' := refs') (rows' := rows.set i (row.set j (x.fz st.hp))) a1.hok hid' (by simp) (fun i' row' hi' => by
      by_cases e : i = i'
      · subst e
        have hlt := lt_of_get hrow
        rw [List.getElem?_set_self hlt] at hi'
        injection hi' with hi'
        subst hi'
        refine ⟨row, hrow, by simp, fun j' x' hj' => ?_⟩
        by_cases ej : j = j'
        · subst ej
          rw [List.getElem?_set_self (lt_of_get hx)] at hj'
          injection hj' with hj'
          subst hj'
          refine ⟨x, hx, fun v hv => ?_⟩
          have hz := RV.fz (l := x.ids) a1.hok hv.up rfl (V.fzP_fz x hp) fun _ h => h
          rw [fz_fz, V.fz_fz] at hz
          exact hz.mono ⟨Nat.le_refl _, fun _ _ hn => ⟨rfl, hn⟩, fun k hl => by simp [Cx.only] at hl, fun _ _ _ e => .inl e⟩
        · rw [List.getElem?_set_ne ej] at hj'
          refine ⟨x', hj', fun v hv => ?_⟩
          rcases hrefs i row hrow j' x' hj' with ⟨_, e⟩ | h
          · exact absurd e.symm ej
          · have hv' := hv.onlyOf refs' h
            exact hv'.mono ⟨Nat.le_refl _, fun _ _ hn => ⟨rfl, hn⟩, fun k hl => ⟨hl.1, hl.2.2⟩, fun _ _ _ e => .inl e⟩
      · rw [List.getElem?_set_ne e] at hi'
        refine ⟨row', hi', rfl, fun j' x' hj' => ⟨x', hj', fun v hv => ?_⟩⟩
        rcases hrefs i' row' hi' j' x' hj' with ⟨e', _⟩ | h
        · exact absurd e'.symm e
        · have hv' := hv.onlyOf refs' h
          exact hv'.mono ⟨Nat.le_refl _, fun _ _ hn => ⟨rfl, hn⟩, fun k hl => ⟨hl.1, hl.2.2⟩, fun _ _ _ e => .inl e⟩)
    have adv := a1.trans a2
    exact ⟨β, adv, hR.adv adv⟩

/-- A cell is told otherwise. -/
theorem Weak.cellsub {st : St} {id i j : Nat} {refs refs' : List Nat} {rows : List (List V)} {row : List V} {x z : V} (hid : st.hp[id]? = some (.mem false refs rows)) (hrow : rows[i]? = some row) (hx : row[j]? = some x) (hs : x.sub z) (hz : z.ids = [])
    (hrefs : ∀ (i' : Nat) (row' : List V), rows[i']? = some row' → ∀ (j' : Nat) (y : V), row'[j']? = some y → (i' = i ∧ j' = j) ∨ ∀ k ∈ y.ids, k ∈ refs') :
    Weak st { st with hp := st.hp.set id (.mem false refs' (rows.set i (row.set j z))) } := by
  refine ⟨rfl, fun k hk => ?_, by simp, fun w β F N a hR => ?_⟩
  · show (st.hp.set id _)[k]? = _
    have hne : k ≠ id := by rintro rfl; rw [hid] at hk; simp at hk
    rw [getElem?_set_ne' hne]; exact hk
  · have hk := hR.hok
    have only : ∀ {v : Value} {y : V}, RV ((cx w.heap st.hp β F).only refs) v y → (∀ k ∈ y.ids, k ∈ refs') → RV ((cx w.heap st.hp β F).only refs') v y := fun hv h =>
      (hv.onlyOf refs' h).mono ⟨Nat.le_refl _, fun _ _ hn => ⟨rfl, hn⟩, fun k hl => ⟨hl.1, hl.2.2⟩, fun _ _ _ e => .inl e⟩
    have a2 := adv_cells (refs' := refs') (rows' := rows.set i (row.set j z)) hk hid (by simp) (fun i' row' hi' => by
      by_cases e : i = i'
      · subst e
        rw [List.getElem?_set_self (lt_of_get hrow)] at hi'
        injection hi' with hi'
        subst hi'
        refine ⟨row, hrow, by simp, fun j' x' hj' => ?_⟩
        by_cases ej : j = j'
        · subst ej
          rw [List.getElem?_set_self (lt_of_get hx)] at hj'
          injection hj' with hj'
          subst hj'
          exact ⟨x, hx, fun v hv => only (hs _ _ hv) (by rw [hz]; simp)⟩
        · rw [List.getElem?_set_ne ej] at hj'
          refine ⟨x', hj', fun v hv => ?_⟩
          rcases hrefs i row hrow j' x' hj' with ⟨_, e⟩ | h
          · exact absurd e.symm ej
          · exact only hv h
      · rw [List.getElem?_set_ne e] at hi'
        refine ⟨row', hi', rfl, fun j' x' hj' => ⟨x', hj', fun v hv => ?_⟩⟩
        rcases hrefs i' row' hi' j' x' hj' with ⟨e', _⟩ | h
        · exact absurd e'.symm e
        · exact only hv h)
    exact ⟨β, a2, hR.adv a2⟩

theorem Weak.refl (st : St) : Weak st st := ⟨rfl, fun _ h => h, Nat.le_refl _, fun w β F N a hR => ⟨β, ⟨hR.hok, .refl _, .refl _ _⟩, hR⟩⟩

/-! Results told otherwise; nil or not. -/

theorem DC.view_nil {P : Program} {f : FuncId} {es : Nat} {H : Heap} {Q : V → Heap → Prop} (h1 : DC P f [.a (.slice none 0 0)] H Q) (h2 : ∀ ad c, DC P f [.a (.slice (some ad) 0 c)] H Q) : DC P f [.view es []] H Q := by
  intro w β F vs hk hr
  have hs : vs.size = 1 := hr.1
  have hv := hr.2 0 (vs[0]'(by omega)) (.view es []) (by simp [hs]) rfl
  generalize e : vs[0]'(by omega) = v at hv
  have hvs : vs = #[v] := by
    apply Array.ext
    · simp [hs]
    · intro i h1 h2
      have : i = 0 := by simp at h2; omega
      subst this
      simpa using e
  subst hvs
  have one : ∀ u, RVs (cx w.heap H β F) #[u] [.a u] := fun u => ⟨rfl, fun i v x h1 h2 => by
    cases i with
    | zero => simp at h1 h2; subst h1; subst h2; exact .a
    | succ i => simp at h2⟩
  cases hv with
  | nilv => exact h1 w β F _ hk (one _)
  | view g hb hcap hlen hg hrr => exact h2 _ _ w β F _ hk (one _)

theorem V.sub.nul (es es' : Nat) : (V.nul es).sub (.view es' []) := fun c v h => by
  cases h with
  | nul =>
    rename_i ad
    cases ad with
    | none => exact .nilv
    | some ad =>
      have := RV.view (c := c) (es := es') (rows := []) (ad := ad) (cap := 0) (fun _ _ => undef) (fun h => absurd rfl h) (Nat.le_refl _) (fun i row h => by simp at h) (fun i row h => by simp at h) (fun i row h => by simp at h)
      exact this
end Go.Abs

/- Short names of the commonest steps. -/
namespace Go.Abs.G
abbrev zm (j d : Nat) (s : Nat) : It := .o j (.lt (some d) (.mov (.tmp s)))
abbrev ym (j g : Nat) (w : Bool) (d : Nat) (s : Nat) : It := .gd j g w (some d) (.lt (some d) (.mov (.tmp s)))
abbrev zk (j d : Nat) (n : Int) : It := .o j (.lt (some d) (.mov (.const (.int .i64 n))))
abbrev zb (j d : Nat) (b : Bool) : It := .o j (.lt (some d) (.mov (.const (.bool b))))
abbrev yb (j g : Nat) (w : Bool) (d : Nat) (b : Bool) : It := .gd j g w (some d) (.lt (some d) (.mov (.const (.bool b))))
abbrev zl (j d : Nat) (n s : Nat) : It := .o j (.lt (some d) (.ld false n (.tmp s)))
abbrev yl (j g : Nat) (w : Bool) (d : Nat) (n s : Nat) : It := .gd j g w (some d) (.lt (some d) (.ld false n (.tmp s)))
abbrev zL (j d : Nat) (n s : Nat) : It := .o j (.lt (some d) (.ld true n (.tmp s)))
abbrev yL (j g : Nat) (w : Bool) (d : Nat) (n s : Nat) : It := .gd j g w (some d) (.lt (some d) (.ld true n (.tmp s)))
abbrev zf (j d : Nat) (s n : Nat) : It := .o j (.lt (some d) (.fad (.tmp s) n))
abbrev yf (j g : Nat) (w : Bool) (d : Nat) (s n : Nat) : It := .gd j g w (some d) (.lt (some d) (.fad (.tmp s) n))
abbrev zc (j d : Nat) (s : Nat) : It := .o j (.lt (some d) (.nilc (.tmp s)))
abbrev yc (j g : Nat) (w : Bool) (d : Nat) (s : Nat) : It := .gd j g w (some d) (.lt (some d) (.nilc (.tmp s)))
abbrev zx (j d : Nat) (n s t : Nat) : It := .o j (.lt (some d) (.ixS n (.tmp s) (.tmp t)))
abbrev yx (j g : Nat) (w : Bool) (d : Nat) (n s t : Nat) : It := .gd j g w (some d) (.lt (some d) (.ixS n (.tmp s) (.tmp t)))
abbrev zn (j d : Nat) (s : Nat) : It := .o j (.lt (some d) (.lenSl (.tmp s)))
abbrev yn (j g : Nat) (w : Bool) (d : Nat) (s : Nat) : It := .gd j g w (some d) (.lt (some d) (.lenSl (.tmp s)))
abbrev zq (j d : Nat) (s : Nat) : It := .o j (.lt (some d) (.un .not (.tmp s)))
abbrev yq (j g : Nat) (w : Bool) (d : Nat) (s : Nat) : It := .gd j g w (some d) (.lt (some d) (.un .not (.tmp s)))
abbrev zp (j d : Nat) (s : Nat) (b : Bool) (t : Nat) : It := .o j (.lt (some d) (.pick (.tmp s) (.const (.bool b)) (.tmp t)))
abbrev yp (j g : Nat) (w : Bool) (d : Nat) (s : Nat) (b : Bool) (t : Nat) : It := .gd j g w (some d) (.lt (some d) (.pick (.tmp s) (.const (.bool b)) (.tmp t)))
abbrev zr (j d : Nat) (s t : Nat) (b : Bool) : It := .o j (.lt (some d) (.pick (.tmp s) (.tmp t) (.const (.bool b))))
abbrev yr (j g : Nat) (w : Bool) (d : Nat) (s t : Nat) (b : Bool) : It := .gd j g w (some d) (.lt (some d) (.pick (.tmp s) (.tmp t) (.const (.bool b))))
abbrev za (j d : Nat) (o : BinOp) (s t : Nat) : It := .o j (.lt (some d) (.bin o (.tmp s) (.tmp t)))
abbrev ya (j g : Nat) (w : Bool) (d : Nat) (o : BinOp) (s t : Nat) : It := .gd j g w (some d) (.lt (some d) (.bin o (.tmp s) (.tmp t)))
abbrev zd (j d : Nat) (o : BinOp) (s : Nat) (n : Int) : It := .o j (.lt (some d) (.bin o (.tmp s) (.const (.int .i64 n))))
abbrev yd (j g : Nat) (w : Bool) (d : Nat) (o : BinOp) (s : Nat) (n : Int) : It := .gd j g w (some d) (.lt (some d) (.bin o (.tmp s) (.const (.int .i64 n))))
abbrev ze (j d : Nat) (s n : Nat) : It := .o j (.lt (some d) (.ext (.tmp s) n))
abbrev zz (j d : Nat) (n : Nat) (b : Bool) (s : Nat) : It := .o j (.lt (some d) (.eqZ n b (.tmp s)))
abbrev yz (j g : Nat) (w : Bool) (d : Nat) (n : Nat) (b : Bool) (s : Nat) : It := .gd j g w (some d) (.lt (some d) (.eqZ n b (.tmp s)))
abbrev rk (l : List Nat) : RA := { gs := [], keep := some l }
abbrev rp (l : List Nat) (a : List (Nat × List Nat)) : RA := { gs := [], keep := some l, aps := a }
abbrev ro (l : List Nat) (o : List Nat) : RA := { gs := [], keep := some l, ord := o }
abbrev rq (l : List Nat) (o : List Nat) (a : List (Nat × List Nat)) : RA := { gs := [], keep := some l, ord := o, aps := a }
end Go.Abs.G

namespace Go.Abs.G
open Go.Proofs
set_option linter.unusedVariables false
def slices_Sort_Lint_int.id : FuncId := 52
@[simp] theorem slices_Sort_Lint_int.okf : okFunc Tryz.prog slices_Sort_Lint_int.id = true := by kernel_rfl
def slices_pdqsortOrdered_int.id : FuncId := 70
@[simp] theorem slices_pdqsortOrdered_int.okf : okFunc Tryz.prog slices_pdqsortOrdered_int.id = true := by kernel_rfl
def math_bits_Len.id : FuncId := 71
@[simp] theorem math_bits_Len.okf : okFunc Tryz.prog math_bits_Len.id = true := by kernel_rfl
def slices_insertionSortOrdered_int.id : FuncId := 90
@[simp] theorem slices_insertionSortOrdered_int.okf : okFunc Tryz.prog slices_insertionSortOrdered_int.id = true := by kernel_rfl
def slices_heapSortOrdered_int.id : FuncId := 91
@[simp] theorem slices_heapSortOrdered_int.okf : okFunc Tryz.prog slices_heapSortOrdered_int.id = true := by kernel_rfl
def slices_breakPatternsOrdered_int.id : FuncId := 92
@[simp] theorem slices_breakPatternsOrdered_int.okf : okFunc Tryz.prog slices_breakPatternsOrdered_int.id = true := by kernel_rfl
def slices_choosePivotOrdered_int.id : FuncId := 93
@[simp] theorem slices_choosePivotOrdered_int.okf : okFunc Tryz.prog slices_choosePivotOrdered_int.id = true := by kernel_rfl
def slices_reverseRangeOrdered_int.id : FuncId := 94
@[simp] theorem slices_reverseRangeOrdered_int.okf : okFunc Tryz.prog slices_reverseRangeOrdered_int.id = true := by kernel_rfl
def slices_partialInsertionSortOrdered_int.id : FuncId := 95
@[simp] theorem slices_partialInsertionSortOrdered_int.okf : okFunc Tryz.prog slices_partialInsertionSortOrdered_int.id = true := by kernel_rfl
def cmp_Less_int.id : FuncId := 96
@[simp] theorem cmp_Less_int.okf : okFunc Tryz.prog cmp_Less_int.id = true := by kernel_rfl
def slices_partitionEqualOrdered_int.id : FuncId := 97
@[simp] theorem slices_partitionEqualOrdered_int.okf : okFunc Tryz.prog slices_partitionEqualOrdered_int.id = true := by kernel_rfl
def slices_partitionOrdered_int.id : FuncId := 98
@[simp] theorem slices_partitionOrdered_int.okf : okFunc Tryz.prog slices_partitionOrdered_int.id = true := by kernel_rfl
def math_bits_Len32.id : FuncId := 99
@[simp] theorem math_bits_Len32.okf : okFunc Tryz.prog math_bits_Len32.id = true := by kernel_rfl
def math_bits_Len64.id : FuncId := 100
@[simp] theorem math_bits_Len64.okf : okFunc Tryz.prog math_bits_Len64.id = true := by kernel_rfl
def slices_siftDownOrdered_int.id : FuncId := 105
@[simp] theorem slices_siftDownOrdered_int.okf : okFunc Tryz.prog slices_siftDownOrdered_int.id = true := by kernel_rfl
def slices_nextPowerOfTwo.id : FuncId := 106
@[simp] theorem slices_nextPowerOfTwo.okf : okFunc Tryz.prog slices_nextPowerOfTwo.id = true := by kernel_rfl
def slices_xorshift_Next.id : FuncId := 107
@[simp] theorem slices_xorshift_Next.okf : okFunc Tryz.prog slices_xorshift_Next.id = true := by kernel_rfl
def slices_medianAdjacentOrdered_int.id : FuncId := 108
@[simp] theorem slices_medianAdjacentOrdered_int.okf : okFunc Tryz.prog slices_medianAdjacentOrdered_int.id = true := by kernel_rfl
def slices_medianOrdered_int.id : FuncId := 109
@[simp] theorem slices_medianOrdered_int.okf : okFunc Tryz.prog slices_medianOrdered_int.id = true := by kernel_rfl
def cmp_isNaN_int.id : FuncId := 110
@[simp] theorem cmp_isNaN_int.okf : okFunc Tryz.prog cmp_isNaN_int.id = true := by kernel_rfl
def slices_order2Ordered_int.id : FuncId := 111
@[simp] theorem slices_order2Ordered_int.okf : okFunc Tryz.prog slices_order2Ordered_int.id = true := by kernel_rfl
-- slices.Sort[[]int,int]
def slices_Sort_Lint_int.ann : List (Nat × RA) := [(0, rk [0, 2]), (1, rp [] [(5, [1000000])])]
def slices_Sort_Lint_int.ir : C := .seq (.reg 0 [zm 0 3 0, zn 1 4 3, zm 2 2 4, .g (.keep [0, 2])]) (.reg 0 [zm 0 5 0, zm 1 6 2, zm 2 7 2, .o 3 (.lt (some 8) (.conv .u64 (.tmp 7))), .o 4 (.call (some 9) math_bits_Len.id [(.tmp 8)]), .o 5 (.callm (some 10) (.func slices_pdqsortOrdered_int.id) [(.tmp 5), (.const (.int .i64 0)), (.tmp 6), (.tmp 9)]), .g (.keep [])])
def slices_Sort_Lint_int.rs : List Rs := []
theorem slices_Sort_Lint_int.ok : isFn Tryz.prog slices_Sort_Lint_int.id 11 slices_Sort_Lint_int.ann slices_Sort_Lint_int.ir slices_Sort_Lint_int.rs := ⟨Tryz.f52, _, Tryz.func52, rfl, rfl, by kernel_rfl, by kernel_rfl⟩
-- slices.pdqsortOrdered[int]
def slices_pdqsortOrdered_int.ann : List (Nat × RA) := [(0, rk [0, 1, 2, 3, 8]), (1, rk [0, 1, 2, 3, 8, 9]), (2, rk [0, 1, 2, 3, 8, 9, 10]), (3, rk [0, 1, 2, 3, 8, 9, 10, 23]), (4, rp [] [(3, [1000000])]), (5, rk [0, 1, 2, 3, 8, 9, 10, 29]), (6, rp [] [(3, [1000000])]), (7, rk [0, 1, 2, 3, 8, 9, 10, 35]), (8, rp [0, 1, 2, 3, 8, 9, 10] [(3, [1000000])]), (9, rk [0, 1, 2, 3, 8, 9, 10]), (10, rp [0, 1, 2, 3, 8, 9, 10, 11, 12] [(3, [1000000])]), (11, rk [0, 1, 2, 3, 8, 9, 10, 11, 12, 50]), (12, rp [0, 1, 2, 3, 8, 9, 10, 11] [(3, [1000000])]), (13, rk [0, 1, 2, 3, 8, 9, 10, 11]), (14, rk [0, 1, 2, 3, 8, 9, 10, 11, 12]), (15, rk [0, 1, 2, 3, 8, 9, 10, 11, 68]), (16, rp [0, 1, 2, 3, 8, 9, 10, 11, 72] [(3, [1000000])]), (17, ro [0, 1, 2, 3, 8, 9, 10, 11, 87] [0, 1, 2, 3, 4, 5, 6, 7, 8, 9, 10, 11, 12, 13, 14]), (18, rp [0, 2, 3, 8, 9, 13] [(4, [1000000])]), (19, rk [0, 1, 2, 3, 8, 9]), (20, rp [0, 1, 2, 3, 10, 14, 15] [(4, [1000000])]), (21, rk [0, 1, 2, 3, 9, 10, 14]), (22, rk [0, 1, 2, 3, 9, 10, 14, 16, 17]), (23, rk [0, 1, 2, 3, 9, 14, 16, 17, 18]), (24, rk [0, 1, 2, 3, 9, 14, 16, 17, 18, 113]), (25, rk [0, 1, 2, 3, 8, 9, 14]), (26, rp [0, 2, 3, 8, 9, 14] [(4, [1000000])]), (27, rk [0, 1, 2, 3, 8, 9]), (28, rk [0, 1, 2, 3, 8, 9, 14]), (29, rp [0, 1, 3, 8, 9, 14] [(5, [1000000])]), (30, rk [0, 1, 2, 3, 8, 9])]
def slices_pdqsortOrdered_int.b0 : C := .block 1 (.seq (.reg 0 [zm 0 19 2, zm 1 20 1, za 2 21 .sub 19 20, zm 3 10 21, .g (.keep [0, 1, 2, 3, 8, 9, 10])]) (.seq (.seq (.reg 0 [zm 0 22 10, zd 1 23 .leq 22 12, .g (.keep [0, 1, 2, 3, 8, 9, 10, 23])]) (.cond (.tmp 23) (.seq (.reg 0 [zm 0 24 0, zm 1 25 1, zm 2 26 2, .o 3 (.callm (some 27) (.func slices_insertionSortOrdered_int.id) [(.tmp 24), (.tmp 25), (.tmp 26)]), .g (.keep [])]) (.ret)) (.skip))) (.seq (.seq (.reg 0 [zm 0 28 3, zd 1 29 .eql 28 0, .g (.keep [0, 1, 2, 3, 8, 9, 10, 29])]) (.cond (.tmp 29) (.seq (.reg 0 [zm 0 30 0, zm 1 31 1, zm 2 32 2, .o 3 (.callm (some 33) (.func slices_heapSortOrdered_int.id) [(.tmp 30), (.tmp 31), (.tmp 32)]), .g (.keep [])]) (.ret)) (.skip))) (.seq (.seq (.reg 0 [zm 0 34 8, zq 1 35 34, .g (.keep [0, 1, 2, 3, 8, 9, 10, 35])]) (.cond (.tmp 35) (.seq (.reg 0 [zm 0 36 0, zm 1 37 1, zm 2 38 2, .o 3 (.callm (some 39) (.func slices_breakPatternsOrdered_int.id) [(.tmp 36), (.tmp 37), (.tmp 38)]), .g (.keep [0, 1, 2, 3, 8, 9, 10])]) (.reg 0 [zm 0 40 3, zd 1 41 .sub 40 1, zm 2 3 41, .g (.keep [0, 1, 2, 3, 8, 9, 10])])) (.skip))) (.seq (.reg 0 [zm 0 43 0, zm 1 44 1, zm 2 45 2, .o 3 (.callm (some 46) (.func slices_choosePivotOrdered_int.id) [(.tmp 43), (.tmp 44), (.tmp 45)]), zm 4 42 46, ze 5 47 42 0, ze 6 48 42 1, zm 7 11 47, zm 8 12 48, .g (.keep [0, 1, 2, 3, 8, 9, 10, 11, 12])]) (.seq (.seq (.reg 0 [zm 0 49 12, zd 1 50 .eql 49 2, .g (.keep [0, 1, 2, 3, 8, 9, 10, 11, 12, 50])]) (.cond (.tmp 50) (.seq (.reg 0 [zm 0 51 0, zm 1 52 1, zm 2 53 2, .o 3 (.callm (some 54) (.func slices_reverseRangeOrdered_int.id) [(.tmp 51), (.tmp 52), (.tmp 53)]), .g (.keep [0, 1, 2, 3, 8, 9, 10, 11])]) (.seq (.reg 0 [zm 0 55 2, zd 1 56 .sub 55 1, zm 2 57 11, zm 3 58 1, za 4 59 .sub 57 58, za 5 60 .sub 56 59, zm 6 11 60, .g (.keep [0, 1, 2, 3, 8, 9, 10, 11])]) (.reg 0 [zk 0 12 1, .g (.keep [0, 1, 2, 3, 8, 9, 10, 11, 12])]))) (.skip))) (.seq (.seq (.reg 0 [zm 0 61 8, zm 1 62 61, ym 2 62 true 63 9, zr 3 64 62 63 false, zm 4 65 64, ym 5 65 true 66 12, yd 6 65 true 67 .eql 66 1, zr 7 68 65 67 false, .g (.keep [0, 1, 2, 3, 8, 9, 10, 11, 68])]) (.cond (.tmp 68) (.seq (.reg 0 [zm 0 69 0, zm 1 70 1, zm 2 71 2, .o 3 (.callm (some 72) (.func slices_partialInsertionSortOrdered_int.id) [(.tmp 69), (.tmp 70), (.tmp 71)]), .g (.keep [0, 1, 2, 3, 8, 9, 10, 11, 72])]) (.cond (.tmp 72) (.ret) (.skip))) (.skip))) (.seq (.seq (.reg 0 [zm 0 73 1, zd 1 74 .gtr 73 0, zm 2 75 74, ym 3 75 true 76 0, ym 4 75 true 77 1, yd 5 75 true 78 .sub 77 1, yx 6 75 true 79 1 76 78, yl 7 75 true 80 1 79, ym 8 75 true 81 0, ym 9 75 true 82 11, yx 10 75 true 83 1 81 82, yl 11 75 true 84 1 83, .gd 12 75 true (some 85) (.call (some 85) cmp_Less_int.id [(.tmp 80), (.tmp 84)]), yq 13 75 true 86 85, zr 14 87 75 86 false, .g (.keep [0, 1, 2, 3, 8, 9, 10, 11, 87])]) (.cond (.tmp 87) (.seq (.reg 0 [zm 0 88 0, zm 1 89 1, zm 2 90 2, zm 3 91 11, .o 4 (.callm (some 92) (.func slices_partitionEqualOrdered_int.id) [(.tmp 88), (.tmp 89), (.tmp 90), (.tmp 91)]), zm 5 13 92, .g (.keep [0, 2, 3, 8, 9, 13])]) (.seq (.reg 0 [zm 0 93 13, zm 1 1 93, .g (.keep [0, 1, 2, 3, 8, 9])]) (.exit 1))) (.skip))) (.seq (.reg 0 [zm 0 95 0, zm 1 96 1, zm 2 97 2, zm 3 98 11, .o 4 (.callm (some 99) (.func slices_partitionOrdered_int.id) [(.tmp 95), (.tmp 96), (.tmp 97), (.tmp 98)]), zm 5 94 99, ze 6 100 94 0, ze 7 101 94 1, zm 8 14 100, zm 9 15 101, .g (.keep [0, 1, 2, 3, 10, 14, 15])]) (.seq (.reg 0 [zm 0 102 15, zm 1 9 102, .g (.keep [0, 1, 2, 3, 9, 10, 14])]) (.seq (.reg 0 [zm 0 103 14, zm 1 104 1, za 2 105 .sub 103 104, zm 3 106 2, zm 4 107 14, za 5 108 .sub 106 107, zm 6 16 105, zm 7 17 108, .g (.keep [0, 1, 2, 3, 9, 10, 14, 16, 17])]) (.seq (.reg 0 [zm 0 109 10, zd 1 110 .quo 109 8, zm 2 18 110, .g (.keep [0, 1, 2, 3, 9, 14, 16, 17, 18])]) (.seq (.reg 0 [zm 0 111 16, zm 1 112 17, za 2 113 .lss 111 112, .g (.keep [0, 1, 2, 3, 9, 14, 16, 17, 18, 113])]) (.cond (.tmp 113) (.seq (.reg 0 [zm 0 114 16, zm 1 115 18, za 2 116 .geq 114 115, zm 3 8 116, .g (.keep [0, 1, 2, 3, 8, 9, 14])]) (.seq (.reg 0 [zm 0 117 0, zm 1 118 1, zm 2 119 14, zm 3 120 3, .o 4 (.callm (some 121) (.func slices_pdqsortOrdered_int.id) [(.tmp 117), (.tmp 118), (.tmp 119), (.tmp 120)]), .g (.keep [0, 2, 3, 8, 9, 14])]) (.reg 0 [zm 0 122 14, zd 1 123 .add 122 1, zm 2 1 123, .g (.keep [0, 1, 2, 3, 8, 9])]))) (.seq (.reg 0 [zm 0 124 17, zm 1 125 18, za 2 126 .geq 124 125, zm 3 8 126, .g (.keep [0, 1, 2, 3, 8, 9, 14])]) (.seq (.reg 0 [zm 0 127 0, zm 1 128 14, zd 2 129 .add 128 1, zm 3 130 2, zm 4 131 3, .o 5 (.callm (some 132) (.func slices_pdqsortOrdered_int.id) [(.tmp 127), (.tmp 129), (.tmp 130), (.tmp 131)]), .g (.keep [0, 1, 3, 8, 9, 14])]) (.reg 0 [zm 0 133 14, zm 1 2 133, .g (.keep [0, 1, 2, 3, 8, 9])])))))))))))))))))
def slices_pdqsortOrdered_int.ir : C := .seq (.reg 0 [zb 0 8 true, .g (.keep [0, 1, 2, 3, 8])]) (.seq (.reg 0 [zb 0 9 true, .g (.keep [0, 1, 2, 3, 8, 9])]) (.block 0 (.loop slices_pdqsortOrdered_int.b0)))
def slices_pdqsortOrdered_int.rs : List Rs := []
theorem slices_pdqsortOrdered_int.ok : isFn Tryz.prog slices_pdqsortOrdered_int.id 134 slices_pdqsortOrdered_int.ann slices_pdqsortOrdered_int.ir slices_pdqsortOrdered_int.rs := ⟨Tryz.f70, _, Tryz.func70, rfl, rfl, by kernel_rfl, by kernel_rfl⟩
-- math/bits.Len
def math_bits_Len.ann : List (Nat × RA) := [(0, rk [0]), (1, rk [2]), (2, rk [2])]
def math_bits_Len.ir : C := .seq (.reg 0 [zk 0 2 0, .g (.keep [0])]) (.seq (.cond (.const (.bool false)) (.seq (.reg 0 [zm 0 3 0, .o 1 (.lt (some 4) (.conv .u32 (.tmp 3))), .o 2 (.call (some 5) math_bits_Len32.id [(.tmp 4)]), zm 3 2 5, .g (.keep [2])]) (.ret)) (.skip)) (.seq (.reg 0 [zm 0 6 0, .o 1 (.call (some 7) math_bits_Len64.id [(.tmp 6)]), zm 2 2 7, .g (.keep [2])]) (.ret)))
def math_bits_Len.rs : List Rs := [.sl 2]
theorem math_bits_Len.ok : isFn Tryz.prog math_bits_Len.id 8 math_bits_Len.ann math_bits_Len.ir math_bits_Len.rs := ⟨Tryz.f71, _, Tryz.func71, rfl, rfl, by kernel_rfl, by kernel_rfl⟩
-- slices.insertionSortOrdered[int]
def slices_insertionSortOrdered_int.ann : List (Nat × RA) := [(0, rk [0, 1, 2, 6]), (1, rk [0, 1, 2, 6, 12]), (2, rk [0, 1, 2, 6]), (3, rk [0, 1, 2, 6, 7]), (4, ro [0, 1, 2, 6, 7, 30] [0, 1, 2, 3, 4, 5, 6, 7, 8, 9, 10, 11, 12, 13, 14]), (5, rk [0, 1, 2, 6, 7]), (6, ro [0, 1, 2, 6, 7] [0, 1, 2, 3, 4, 5, 6, 7, 8, 9, 10, 11, 12, 13, 14, 15, 16, 17])]
def slices_insertionSortOrdered_int.b1 : C := .seq (.seq (.reg 0 [zm 0 16 7, zm 1 17 1, za 2 18 .gtr 16 17, zm 3 19 18, ym 4 19 true 20 0, ym 5 19 true 21 7, yx 6 19 true 22 1 20 21, yl 7 19 true 23 1 22, ym 8 19 true 24 0, ym 9 19 true 25 7, yd 10 19 true 26 .sub 25 1, yx 11 19 true 27 1 24 26, yl 12 19 true 28 1 27, .gd 13 19 true (some 29) (.call (some 29) cmp_Less_int.id [(.tmp 23), (.tmp 28)]), zr 14 30 19 29 false, .g (.keep [0, 1, 2, 6, 7, 30])]) (.cond (.tmp 30) (.skip) (.exit 2))) (.seq (.block 3 (.reg 0 [zm 0 33 0, zm 1 34 7, zm 2 35 0, zm 3 36 7, zd 4 37 .sub 36 1, zm 5 38 0, zm 6 39 7, zd 7 40 .sub 39 1, zx 8 41 1 38 40, zl 9 42 1 41, zm 10 43 0, zm 11 44 7, zx 12 45 1 43 44, zl 13 46 1 45, zx 14 47 1 33 34, .o 15 (.store [] 1 (.tmp 47) (.tmp 42)), zx 16 48 1 35 37, .o 17 (.store [] 1 (.tmp 48) (.tmp 46)), .g (.keep [0, 1, 2, 6, 7])])) (.reg 0 [zm 0 31 7, zd 1 32 .sub 31 1, zm 2 7 32, .g (.keep [0, 1, 2, 6, 7])]))
def slices_insertionSortOrdered_int.b0 : C := .seq (.seq (.reg 0 [zm 0 10 6, zm 1 11 2, za 2 12 .lss 10 11, .g (.keep [0, 1, 2, 6, 12])]) (.cond (.tmp 12) (.skip) (.exit 0))) (.seq (.block 1 (.seq (.reg 0 [zm 0 15 6, zm 1 7 15, .g (.keep [0, 1, 2, 6, 7])]) (.block 2 (.loop slices_insertionSortOrdered_int.b1)))) (.reg 0 [zm 0 13 6, zd 1 14 .add 13 1, zm 2 6 14, .g (.keep [0, 1, 2, 6])]))
def slices_insertionSortOrdered_int.ir : C := .seq (.reg 0 [zm 0 8 1, zd 1 9 .add 8 1, zm 2 6 9, .g (.keep [0, 1, 2, 6])]) (.block 0 (.loop slices_insertionSortOrdered_int.b0))
def slices_insertionSortOrdered_int.rs : List Rs := []
theorem slices_insertionSortOrdered_int.ok : isFn Tryz.prog slices_insertionSortOrdered_int.id 49 slices_insertionSortOrdered_int.ann slices_insertionSortOrdered_int.ir slices_insertionSortOrdered_int.rs := ⟨Tryz.f90, _, Tryz.func90, rfl, rfl, by kernel_rfl, by kernel_rfl⟩
-- slices.heapSortOrdered[int]
def slices_heapSortOrdered_int.ann : List (Nat × RA) := [(0, rk [0, 1, 2, 6]), (1, rk [0, 1, 2, 6, 7]), (2, rk [0, 6, 7, 8]), (3, rk [0, 6, 7, 8, 9]), (4, rk [0, 6, 7, 8, 9, 19]), (5, rk [0, 6, 7, 8, 9]), (6, rp [0, 6, 7, 8, 9] [(4, [1000000])]), (7, rk [0, 6, 7, 10]), (8, rk [0, 6, 7, 10, 30]), (9, rk [0, 6, 7, 10]), (10, ro [0, 6, 7, 10] [0, 1, 2, 3, 4, 5, 6, 7, 8, 9, 10, 11, 12, 13, 14, 15, 16, 17, 18, 19]), (11, rp [0, 6, 7, 10] [(4, [1000000])])]
def slices_heapSortOrdered_int.b1 : C := .seq (.seq (.reg 0 [zm 0 29 10, zd 1 30 .geq 29 0, .g (.keep [0, 6, 7, 10, 30])]) (.cond (.tmp 30) (.skip) (.exit 2))) (.seq (.block 3 (.seq (.reg 0 [zm 0 33 0, zm 1 34 6, zm 2 35 0, zm 3 36 6, zm 4 37 10, za 5 38 .add 36 37, zm 6 39 0, zm 7 40 6, zm 8 41 10, za 9 42 .add 40 41, zx 10 43 1 39 42, zl 11 44 1 43, zm 12 45 0, zm 13 46 6, zx 14 47 1 45 46, zl 15 48 1 47, zx 16 49 1 33 34, .o 17 (.store [] 1 (.tmp 49) (.tmp 44)), zx 18 50 1 35 38, .o 19 (.store [] 1 (.tmp 50) (.tmp 48)), .g (.keep [0, 6, 7, 10])]) (.reg 0 [zm 0 51 0, zm 1 52 7, zm 2 53 10, zm 3 54 6, .o 4 (.callm (some 55) (.func slices_siftDownOrdered_int.id) [(.tmp 51), (.tmp 52), (.tmp 53), (.tmp 54)]), .g (.keep [0, 6, 7, 10])]))) (.reg 0 [zm 0 31 10, zd 1 32 .sub 31 1, zm 2 10 32, .g (.keep [0, 6, 7, 10])]))
def slices_heapSortOrdered_int.b0 : C := .seq (.seq (.reg 0 [zm 0 18 9, zd 1 19 .geq 18 0, .g (.keep [0, 6, 7, 8, 9, 19])]) (.cond (.tmp 19) (.skip) (.exit 0))) (.seq (.block 1 (.reg 0 [zm 0 22 0, zm 1 23 9, zm 2 24 8, zm 3 25 6, .o 4 (.callm (some 26) (.func slices_siftDownOrdered_int.id) [(.tmp 22), (.tmp 23), (.tmp 24), (.tmp 25)]), .g (.keep [0, 6, 7, 8, 9])])) (.reg 0 [zm 0 20 9, zd 1 21 .sub 20 1, zm 2 9 21, .g (.keep [0, 6, 7, 8, 9])]))
def slices_heapSortOrdered_int.ir : C := .seq (.reg 0 [zm 0 11 1, zm 1 6 11, .g (.keep [0, 1, 2, 6])]) (.seq (.reg 0 [zk 0 7 0, .g (.keep [0, 1, 2, 6, 7])]) (.seq (.reg 0 [zm 0 12 2, zm 1 13 1, za 2 14 .sub 12 13, zm 3 8 14, .g (.keep [0, 6, 7, 8])]) (.seq (.seq (.reg 0 [zm 0 15 8, zd 1 16 .sub 15 1, zd 2 17 .quo 16 2, zm 3 9 17, .g (.keep [0, 6, 7, 8, 9])]) (.block 0 (.loop slices_heapSortOrdered_int.b0))) (.seq (.reg 0 [zm 0 27 8, zd 1 28 .sub 27 1, zm 2 10 28, .g (.keep [0, 6, 7, 10])]) (.block 2 (.loop slices_heapSortOrdered_int.b1))))))
def slices_heapSortOrdered_int.rs : List Rs := []
theorem slices_heapSortOrdered_int.ok : isFn Tryz.prog slices_heapSortOrdered_int.id 56 slices_heapSortOrdered_int.ann slices_heapSortOrdered_int.ir slices_heapSortOrdered_int.rs := ⟨Tryz.f91, _, Tryz.func91, rfl, rfl, by kernel_rfl, by kernel_rfl⟩
-- slices.breakPatternsOrdered[int]
def slices_breakPatternsOrdered_int.ann : List (Nat × RA) := [(0, rk [0, 1, 6]), (1, rk [0, 1, 6, 15]), (2, rk [0, 1, 6, 7]), (3, rk [0, 1, 6, 7, 8]), (4, rk [0, 1, 6, 7, 8, 9]), (5, rk [0, 1, 6, 7, 8, 9, 33]), (6, rk [0, 1, 6, 7, 8, 9]), (7, rp [0, 1, 6, 7, 8, 9, 10] [(0, [1000000])]), (8, rk [0, 1, 6, 7, 8, 9, 10, 43]), (9, rk [0, 1, 6, 7, 8, 9, 10]), (10, ro [0, 1, 6, 7, 8, 9] [0, 1, 2, 3, 4, 5, 6, 7, 8, 9, 10, 11, 12, 13, 14, 15, 16, 17, 18, 19])]
def slices_breakPatternsOrdered_int.b0 : C := .seq (.seq (.reg 0 [zm 0 26 9, zm 1 27 1, zm 2 28 6, zd 3 29 .quo 28 4, zd 4 30 .mul 29 2, za 5 31 .add 27 30, zd 6 32 .add 31 1, za 7 33 .leq 26 32, .g (.keep [0, 1, 6, 7, 8, 9, 33])]) (.cond (.tmp 33) (.skip) (.exit 0))) (.seq (.block 1 (.seq (.reg 0 [.o 0 (.callm (some 36) (.func slices_xorshift_Next.id) [(.tmp 7)]), zm 1 37 8, .o 2 (.lt (some 38) (.bin .sub (.tmp 37) (.const (.int .u64 1)))), za 3 39 .and 36 38, .o 4 (.lt (some 40) (.conv .i64 (.tmp 39))), zm 5 10 40, .g (.keep [0, 1, 6, 7, 8, 9, 10])]) (.seq (.seq (.reg 0 [zm 0 41 10, zm 1 42 6, za 2 43 .geq 41 42, .g (.keep [0, 1, 6, 7, 8, 9, 10, 43])]) (.cond (.tmp 43) (.reg 0 [zm 0 44 10, zm 1 45 6, za 2 46 .sub 44 45, zm 3 10 46, .g (.keep [0, 1, 6, 7, 8, 9, 10])]) (.skip))) (.reg 0 [zm 0 47 0, zm 1 48 9, zm 2 49 0, zm 3 50 1, zm 4 51 10, za 5 52 .add 50 51, zm 6 53 0, zm 7 54 1, zm 8 55 10, za 9 56 .add 54 55, zx 10 57 1 53 56, zl 11 58 1 57, zm 12 59 0, zm 13 60 9, zx 14 61 1 59 60, zl 15 62 1 61, zx 16 63 1 47 48, .o 17 (.store [] 1 (.tmp 63) (.tmp 58)), zx 18 64 1 49 52, .o 19 (.store [] 1 (.tmp 64) (.tmp 62)), .g (.keep [0, 1, 6, 7, 8, 9])])))) (.reg 0 [zm 0 34 9, zd 1 35 .add 34 1, zm 2 9 35, .g (.keep [0, 1, 6, 7, 8, 9])]))
def slices_breakPatternsOrdered_int.ir : C := .seq (.reg 0 [zm 0 11 2, zm 1 12 1, za 2 13 .sub 11 12, zm 3 6 13, .g (.keep [0, 1, 6])]) (.seq (.reg 0 [zm 0 14 6, zd 1 15 .geq 14 8, .g (.keep [0, 1, 6, 15])]) (.cond (.tmp 15) (.seq (.reg 1 [zm 0 16 6, .o 1 (.lt (some 17) (.conv .u64 (.tmp 16))), .o 2 (.alloc (some 7) 0 1 [.a (.int .u64 0)]), .o 3 (.store [] 1 (.tmp 7) (.tmp 17)), .g (.keep [0, 1, 6, 7])]) (.seq (.reg 0 [zm 0 18 6, .o 1 (.call (some 19) slices_nextPowerOfTwo.id [(.tmp 18)]), zm 2 8 19, .g (.keep [0, 1, 6, 7, 8])]) (.seq (.reg 0 [zm 0 20 1, zm 1 21 6, zd 2 22 .quo 21 4, zd 3 23 .mul 22 2, za 4 24 .add 20 23, zd 5 25 .sub 24 1, zm 6 9 25, .g (.keep [0, 1, 6, 7, 8, 9])]) (.block 0 (.loop slices_breakPatternsOrdered_int.b0))))) (.skip)))
def slices_breakPatternsOrdered_int.rs : List Rs := []
theorem slices_breakPatternsOrdered_int.ok : isFn Tryz.prog slices_breakPatternsOrdered_int.id 65 slices_breakPatternsOrdered_int.ann slices_breakPatternsOrdered_int.ir slices_breakPatternsOrdered_int.rs := ⟨Tryz.f92, _, Tryz.func92, rfl, rfl, by kernel_rfl, by kernel_rfl⟩
-- slices.choosePivotOrdered[int]
def slices_choosePivotOrdered_int.ann : List (Nat × RA) := [(0, rk [0, 1, 2]), (1, rk [0, 1, 8]), (2, rk [0, 1, 8, 9]), (3, rk [0, 1, 8, 9, 10]), (4, rk [0, 1, 8, 9, 10, 11]), (5, rk [0, 8, 9, 10, 11, 12]), (6, rk [0, 8, 9, 10, 11, 12, 32]), (7, rk [0, 9, 10, 11, 12, 34]), (8, rp [0, 9, 10, 11, 12] [(2, [1000000])]), (9, rp [0, 9, 10, 11, 12] [(2, [1000000])]), (10, rp [0, 9, 10, 11, 12] [(2, [1000000])]), (11, rp [9, 11] [(4, [1000000])]), (12, rk [11, 49]), (13, rk [6, 7]), (14, rk [11, 49, 51]), (15, rk [6, 7]), (16, rk [11, 54]), (17, rk [6, 7])]
def slices_choosePivotOrdered_int.ir : C := .seq (.reg 0 [zk 0 6 0, zk 1 7 0, .g (.keep [0, 1, 2])]) (.seq (.reg 0 [zm 0 13 2, zm 1 14 1, za 2 15 .sub 13 14, zm 3 8 15, .g (.keep [0, 1, 8])]) (.seq (.reg 1 [.o 0 (.alloc (some 9) 0 1 [.a (.int .i64 0)]), .g (.keep [0, 1, 8, 9])]) (.seq (.reg 0 [zm 0 16 1, zm 1 17 8, zd 2 18 .quo 17 4, zd 3 19 .mul 18 1, za 4 20 .add 16 19, zm 5 10 20, .g (.keep [0, 1, 8, 9, 10])]) (.seq (.reg 0 [zm 0 21 1, zm 1 22 8, zd 2 23 .quo 22 4, zd 3 24 .mul 23 2, za 4 25 .add 21 24, zm 5 11 25, .g (.keep [0, 1, 8, 9, 10, 11])]) (.seq (.reg 0 [zm 0 26 1, zm 1 27 8, zd 2 28 .quo 27 4, zd 3 29 .mul 28 3, za 4 30 .add 26 29, zm 5 12 30, .g (.keep [0, 8, 9, 10, 11, 12])]) (.seq (.seq (.reg 0 [zm 0 31 8, zd 1 32 .geq 31 8, .g (.keep [0, 8, 9, 10, 11, 12, 32])]) (.cond (.tmp 32) (.seq (.seq (.reg 0 [zm 0 33 8, zd 1 34 .geq 33 50, .g (.keep [0, 9, 10, 11, 12, 34])]) (.cond (.tmp 34) (.seq (.reg 0 [zm 0 35 0, zm 1 36 10, .o 2 (.callm (some 37) (.func slices_medianAdjacentOrdered_int.id) [(.tmp 35), (.tmp 36), (.tmp 9)]), zm 3 10 37, .g (.keep [0, 9, 10, 11, 12])]) (.seq (.reg 0 [zm 0 38 0, zm 1 39 11, .o 2 (.callm (some 40) (.func slices_medianAdjacentOrdered_int.id) [(.tmp 38), (.tmp 39), (.tmp 9)]), zm 3 11 40, .g (.keep [0, 9, 10, 11, 12])]) (.reg 0 [zm 0 41 0, zm 1 42 12, .o 2 (.callm (some 43) (.func slices_medianAdjacentOrdered_int.id) [(.tmp 41), (.tmp 42), (.tmp 9)]), zm 3 12 43, .g (.keep [0, 9, 10, 11, 12])]))) (.skip))) (.reg 0 [zm 0 44 0, zm 1 45 10, zm 2 46 11, zm 3 47 12, .o 4 (.callm (some 48) (.func slices_medianOrdered_int.id) [(.tmp 44), (.tmp 45), (.tmp 46), (.tmp 47), (.tmp 9)]), zm 5 11 48, .g (.keep [9, 11])])) (.skip))) (.seq (.reg 0 [zl 0 49 1 9, .g (.keep [11, 49])]) (.block 0 (.seq (.reg 0 [zd 0 52 .eql 49 0, zm 1 51 52, .g (.keep [11, 49, 51])]) (.cond (.tmp 51) (.seq (.reg 0 [zm 0 53 11, zm 1 6 53, zk 2 7 1, .g (.keep [6, 7])]) (.ret)) (.seq (.reg 0 [zd 0 55 .eql 49 12, zm 1 54 55, .g (.keep [11, 54])]) (.cond (.tmp 54) (.seq (.reg 0 [zm 0 56 11, zm 1 6 56, zk 2 7 2, .g (.keep [6, 7])]) (.ret)) (.seq (.reg 0 [zm 0 50 11, zm 1 6 50, zk 2 7 0, .g (.keep [6, 7])]) (.ret))))))))))))))
def slices_choosePivotOrdered_int.rs : List Rs := [.sl 6, .sl 7]
theorem slices_choosePivotOrdered_int.ok : isFn Tryz.prog slices_choosePivotOrdered_int.id 57 slices_choosePivotOrdered_int.ann slices_choosePivotOrdered_int.ir slices_choosePivotOrdered_int.rs := ⟨Tryz.f93, _, Tryz.func93, rfl, rfl, by kernel_rfl, by kernel_rfl⟩
-- slices.reverseRangeOrdered[int]
def slices_reverseRangeOrdered_int.ann : List (Nat × RA) := [(0, rk [0, 2, 6]), (1, rk [0, 6, 7]), (2, rk [0, 6, 7, 13]), (3, ro [0, 6, 7] [0, 1, 2, 3, 4, 5, 6, 7, 8, 9, 10, 11, 12, 13, 14, 15]), (4, rk [0, 6, 7]), (5, rk [0, 6, 7])]
def slices_reverseRangeOrdered_int.b0 : C := .seq (.seq (.reg 0 [zm 0 11 6, zm 1 12 7, za 2 13 .lss 11 12, .g (.keep [0, 6, 7, 13])]) (.cond (.tmp 13) (.skip) (.exit 0))) (.block 1 (.seq (.reg 0 [zm 0 14 0, zm 1 15 6, zm 2 16 0, zm 3 17 7, zm 4 18 0, zm 5 19 7, zx 6 20 1 18 19, zl 7 21 1 20, zm 8 22 0, zm 9 23 6, zx 10 24 1 22 23, zl 11 25 1 24, zx 12 26 1 14 15, .o 13 (.store [] 1 (.tmp 26) (.tmp 21)), zx 14 27 1 16 17, .o 15 (.store [] 1 (.tmp 27) (.tmp 25)), .g (.keep [0, 6, 7])]) (.seq (.reg 0 [zm 0 28 6, zd 1 29 .add 28 1, zm 2 6 29, .g (.keep [0, 6, 7])]) (.reg 0 [zm 0 30 7, zd 1 31 .sub 30 1, zm 2 7 31, .g (.keep [0, 6, 7])]))))
def slices_reverseRangeOrdered_int.ir : C := .seq (.reg 0 [zm 0 8 1, zm 1 6 8, .g (.keep [0, 2, 6])]) (.seq (.reg 0 [zm 0 9 2, zd 1 10 .sub 9 1, zm 2 7 10, .g (.keep [0, 6, 7])]) (.block 0 (.loop slices_reverseRangeOrdered_int.b0)))
def slices_reverseRangeOrdered_int.rs : List Rs := []
theorem slices_reverseRangeOrdered_int.ok : isFn Tryz.prog slices_reverseRangeOrdered_int.id 32 slices_reverseRangeOrdered_int.ann slices_reverseRangeOrdered_int.ir slices_reverseRangeOrdered_int.rs := ⟨Tryz.f94, _, Tryz.func94, rfl, rfl, by kernel_rfl, by kernel_rfl⟩
-- slices.partialInsertionSortOrdered[int]
def slices_partialInsertionSortOrdered_int.ann : List (Nat × RA) := [(0, rk [0, 1, 2]), (1, rk [0, 1, 2, 7]), (2, rk [0, 1, 2, 7, 8]), (3, rk [0, 1, 2, 7, 8, 14]), (4, rk [0, 1, 2, 7, 8]), (5, ro [0, 1, 2, 7, 8, 32] [0, 1, 2, 3, 4, 5, 6, 7, 8, 9, 10, 11, 12, 13, 14, 15]), (6, rk [0, 1, 2, 7, 8]), (7, rk [0, 1, 2, 7, 8, 37]), (8, rk [6]), (9, rk [0, 1, 2, 7, 8, 41]), (10, rk [6]), (11, ro [0, 1, 2, 7, 8] [0, 1, 2, 3, 4, 5, 6, 7, 8, 9, 10, 11, 12, 13, 14, 15, 16, 17]), (12, rk [0, 1, 2, 7, 8, 61]), (13, rk [0, 1, 2, 7, 8, 9]), (14, rk [0, 1, 2, 7, 8, 9, 65]), (15, rk [0, 1, 2, 7, 8, 9]), (16, ro [0, 1, 2, 7, 8, 9, 78] [0, 1, 2, 3, 4, 5, 6, 7, 8, 9, 10]), (17, ro [0, 1, 2, 7, 8, 9] [0, 1, 2, 3, 4, 5, 6, 7, 8, 9, 10, 11, 12, 13, 14, 15, 16, 17]), (18, rk [0, 1, 2, 7, 8, 98]), (19, rk [0, 1, 2, 7, 8, 10]), (20, rk [0, 1, 2, 7, 8, 10, 103]), (21, rk [0, 1, 2, 7, 8, 10]), (22, ro [0, 1, 2, 7, 8, 10, 116] [0, 1, 2, 3, 4, 5, 6, 7, 8, 9, 10]), (23, ro [0, 1, 2, 7, 8, 10] [0, 1, 2, 3, 4, 5, 6, 7, 8, 9, 10, 11, 12, 13, 14, 15, 16, 17]), (24, rk [6])]
def slices_partialInsertionSortOrdered_int.b3 : C := .seq (.seq (.reg 0 [zm 0 101 10, zm 1 102 2, za 2 103 .lss 101 102, .g (.keep [0, 1, 2, 7, 8, 10, 103])]) (.cond (.tmp 103) (.skip) (.exit 6))) (.seq (.block 7 (.seq (.seq (.reg 0 [zm 0 106 0, zm 1 107 10, zx 2 108 1 106 107, zl 3 109 1 108, zm 4 110 0, zm 5 111 10, zd 6 112 .sub 111 1, zx 7 113 1 110 112, zl 8 114 1 113, .o 9 (.call (some 115) cmp_Less_int.id [(.tmp 109), (.tmp 114)]), zq 10 116 115, .g (.keep [0, 1, 2, 7, 8, 10, 116])]) (.cond (.tmp 116) (.exit 6) (.skip))) (.reg 0 [zm 0 117 0, zm 1 118 10, zm 2 119 0, zm 3 120 10, zd 4 121 .sub 120 1, zm 5 122 0, zm 6 123 10, zd 7 124 .sub 123 1, zx 8 125 1 122 124, zl 9 126 1 125, zm 10 127 0, zm 11 128 10, zx 12 129 1 127 128, zl 13 130 1 129, zx 14 131 1 117 118, .o 15 (.store [] 1 (.tmp 131) (.tmp 126)), zx 16 132 1 119 121, .o 17 (.store [] 1 (.tmp 132) (.tmp 130)), .g (.keep [0, 1, 2, 7, 8, 10])]))) (.reg 0 [zm 0 104 10, zd 1 105 .add 104 1, zm 2 10 105, .g (.keep [0, 1, 2, 7, 8, 10])]))
def slices_partialInsertionSortOrdered_int.b2 : C := .seq (.seq (.reg 0 [zm 0 64 9, zd 1 65 .geq 64 1, .g (.keep [0, 1, 2, 7, 8, 9, 65])]) (.cond (.tmp 65) (.skip) (.exit 4))) (.seq (.block 5 (.seq (.seq (.reg 0 [zm 0 68 0, zm 1 69 9, zx 2 70 1 68 69, zl 3 71 1 70, zm 4 72 0, zm 5 73 9, zd 6 74 .sub 73 1, zx 7 75 1 72 74, zl 8 76 1 75, .o 9 (.call (some 77) cmp_Less_int.id [(.tmp 71), (.tmp 76)]), zq 10 78 77, .g (.keep [0, 1, 2, 7, 8, 9, 78])]) (.cond (.tmp 78) (.exit 4) (.skip))) (.reg 0 [zm 0 79 0, zm 1 80 9, zm 2 81 0, zm 3 82 9, zd 4 83 .sub 82 1, zm 5 84 0, zm 6 85 9, zd 7 86 .sub 85 1, zx 8 87 1 84 86, zl 9 88 1 87, zm 10 89 0, zm 11 90 9, zx 12 91 1 89 90, zl 13 92 1 91, zx 14 93 1 79 80, .o 15 (.store [] 1 (.tmp 93) (.tmp 88)), zx 16 94 1 81 83, .o 17 (.store [] 1 (.tmp 94) (.tmp 92)), .g (.keep [0, 1, 2, 7, 8, 9])]))) (.reg 0 [zm 0 66 9, zd 1 67 .sub 66 1, zm 2 9 67, .g (.keep [0, 1, 2, 7, 8, 9])]))
def slices_partialInsertionSortOrdered_int.b1 : C := .seq (.seq (.reg 0 [zm 0 17 7, zm 1 18 2, za 2 19 .lss 17 18, zm 3 20 19, ym 4 20 true 21 0, ym 5 20 true 22 7, yx 6 20 true 23 1 21 22, yl 7 20 true 24 1 23, ym 8 20 true 25 0, ym 9 20 true 26 7, yd 10 20 true 27 .sub 26 1, yx 11 20 true 28 1 25 27, yl 12 20 true 29 1 28, .gd 13 20 true (some 30) (.call (some 30) cmp_Less_int.id [(.tmp 24), (.tmp 29)]), yq 14 20 true 31 30, zr 15 32 20 31 false, .g (.keep [0, 1, 2, 7, 8, 32])]) (.cond (.tmp 32) (.skip) (.exit 2))) (.block 3 (.reg 0 [zm 0 33 7, zd 1 34 .add 33 1, zm 2 7 34, .g (.keep [0, 1, 2, 7, 8])]))
def slices_partialInsertionSortOrdered_int.b0 : C := .seq (.seq (.reg 0 [zm 0 13 8, zd 1 14 .lss 13 5, .g (.keep [0, 1, 2, 7, 8, 14])]) (.cond (.tmp 14) (.skip) (.exit 0))) (.seq (.block 1 (.seq (.block 2 (.loop slices_partialInsertionSortOrdered_int.b1)) (.seq (.seq (.reg 0 [zm 0 35 7, zm 1 36 2, za 2 37 .eql 35 36, .g (.keep [0, 1, 2, 7, 8, 37])]) (.cond (.tmp 37) (.seq (.reg 0 [zb 0 6 true, .g (.keep [6])]) (.ret)) (.skip))) (.seq (.seq (.reg 0 [zm 0 38 2, zm 1 39 1, za 2 40 .sub 38 39, zd 3 41 .lss 40 50, .g (.keep [0, 1, 2, 7, 8, 41])]) (.cond (.tmp 41) (.seq (.reg 0 [zb 0 6 false, .g (.keep [6])]) (.ret)) (.skip))) (.seq (.reg 0 [zm 0 42 0, zm 1 43 7, zm 2 44 0, zm 3 45 7, zd 4 46 .sub 45 1, zm 5 47 0, zm 6 48 7, zd 7 49 .sub 48 1, zx 8 50 1 47 49, zl 9 51 1 50, zm 10 52 0, zm 11 53 7, zx 12 54 1 52 53, zl 13 55 1 54, zx 14 56 1 42 43, .o 15 (.store [] 1 (.tmp 56) (.tmp 51)), zx 16 57 1 44 46, .o 17 (.store [] 1 (.tmp 57) (.tmp 55)), .g (.keep [0, 1, 2, 7, 8])]) (.seq (.seq (.reg 0 [zm 0 58 7, zm 1 59 1, za 2 60 .sub 58 59, zd 3 61 .geq 60 2, .g (.keep [0, 1, 2, 7, 8, 61])]) (.cond (.tmp 61) (.seq (.reg 0 [zm 0 62 7, zd 1 63 .sub 62 1, zm 2 9 63, .g (.keep [0, 1, 2, 7, 8, 9])]) (.block 4 (.loop slices_partialInsertionSortOrdered_int.b2))) (.skip))) (.seq (.reg 0 [zm 0 95 2, zm 1 96 7, za 2 97 .sub 95 96, zd 3 98 .geq 97 2, .g (.keep [0, 1, 2, 7, 8, 98])]) (.cond (.tmp 98) (.seq (.reg 0 [zm 0 99 7, zd 1 100 .add 99 1, zm 2 10 100, .g (.keep [0, 1, 2, 7, 8, 10])]) (.block 6 (.loop slices_partialInsertionSortOrdered_int.b3))) (.skip))))))))) (.reg 0 [zm 0 15 8, zd 1 16 .add 15 1, zm 2 8 16, .g (.keep [0, 1, 2, 7, 8])]))
def slices_partialInsertionSortOrdered_int.ir : C := .seq (.reg 0 [zb 0 6 false, .g (.keep [0, 1, 2])]) (.seq (.reg 0 [zm 0 11 1, zd 1 12 .add 11 1, zm 2 7 12, .g (.keep [0, 1, 2, 7])]) (.seq (.seq (.reg 0 [zk 0 8 0, .g (.keep [0, 1, 2, 7, 8])]) (.block 0 (.loop slices_partialInsertionSortOrdered_int.b0))) (.seq (.reg 0 [zb 0 6 false, .g (.keep [6])]) (.ret))))
def slices_partialInsertionSortOrdered_int.rs : List Rs := [.sl 6]
theorem slices_partialInsertionSortOrdered_int.ok : isFn Tryz.prog slices_partialInsertionSortOrdered_int.id 133 slices_partialInsertionSortOrdered_int.ann slices_partialInsertionSortOrdered_int.ir slices_partialInsertionSortOrdered_int.rs := ⟨Tryz.f95, _, Tryz.func95, rfl, rfl, by kernel_rfl, by kernel_rfl⟩
-- cmp.Less[int]
def cmp_Less_int.ann : List (Nat × RA) := [(0, rk [0, 1]), (1, rk [4])]
def cmp_Less_int.ir : C := .seq (.reg 0 [zb 0 4 false, .g (.keep [0, 1])]) (.seq (.reg 0 [zm 0 5 0, .o 1 (.call (some 6) cmp_isNaN_int.id [(.tmp 5)]), zm 2 7 6, ym 3 7 true 8 1, .gd 4 7 true (some 9) (.call (some 9) cmp_isNaN_int.id [(.tmp 8)]), yq 5 7 true 10 9, zr 6 11 7 10 false, zm 7 12 11, ym 8 12 false 13 0, ym 9 12 false 14 1, ya 10 12 false 15 .lss 13 14, zp 11 16 12 true 15, zm 12 4 16, .g (.keep [4])]) (.ret))
def cmp_Less_int.rs : List Rs := [.sl 4]
theorem cmp_Less_int.ok : isFn Tryz.prog cmp_Less_int.id 17 cmp_Less_int.ann cmp_Less_int.ir cmp_Less_int.rs := ⟨Tryz.f96, _, Tryz.func96, rfl, rfl, by kernel_rfl, by kernel_rfl⟩
-- slices.partitionEqualOrdered[int]
def slices_partitionEqualOrdered_int.ann : List (Nat × RA) := [(0, rk [0, 1, 2, 3]), (1, ro [0, 1, 2] [0, 1, 2, 3, 4, 5, 6, 7, 8, 9, 10, 11, 12, 13, 14, 15]), (2, rk [0, 1, 9, 10]), (3, ro [0, 1, 9, 10, 43] [0, 1, 2, 3, 4, 5, 6, 7, 8, 9, 10, 11, 12, 13, 14]), (4, rk [0, 1, 9, 10]), (5, ro [0, 1, 9, 10, 59] [0, 1, 2, 3, 4, 5, 6, 7, 8, 9, 10, 11, 12, 13]), (6, rk [0, 1, 9, 10]), (7, rk [0, 1, 9, 10, 64]), (8, ro [0, 1, 9, 10] [0, 1, 2, 3, 4, 5, 6, 7, 8, 9, 10, 11, 12, 13, 14, 15]), (9, rk [0, 1, 9, 10]), (10, rk [0, 1, 9, 10]), (11, rk [8])]
def slices_partitionEqualOrdered_int.b2 : C := .seq (.seq (.reg 0 [zm 0 46 9, zm 1 47 10, za 2 48 .leq 46 47, zm 3 49 48, ym 4 49 true 50 0, ym 5 49 true 51 1, yx 6 49 true 52 1 50 51, yl 7 49 true 53 1 52, ym 8 49 true 54 0, ym 9 49 true 55 10, yx 10 49 true 56 1 54 55, yl 11 49 true 57 1 56, .gd 12 49 true (some 58) (.call (some 58) cmp_Less_int.id [(.tmp 53), (.tmp 57)]), zr 13 59 49 58 false, .g (.keep [0, 1, 9, 10, 59])]) (.cond (.tmp 59) (.skip) (.exit 4))) (.block 5 (.reg 0 [zm 0 60 10, zd 1 61 .sub 60 1, zm 2 10 61, .g (.keep [0, 1, 9, 10])]))
def slices_partitionEqualOrdered_int.b1 : C := .seq (.seq (.reg 0 [zm 0 29 9, zm 1 30 10, za 2 31 .leq 29 30, zm 3 32 31, ym 4 32 true 33 0, ym 5 32 true 34 1, yx 6 32 true 35 1 33 34, yl 7 32 true 36 1 35, ym 8 32 true 37 0, ym 9 32 true 38 9, yx 10 32 true 39 1 37 38, yl 11 32 true 40 1 39, .gd 12 32 true (some 41) (.call (some 41) cmp_Less_int.id [(.tmp 36), (.tmp 40)]), yq 13 32 true 42 41, zr 14 43 32 42 false, .g (.keep [0, 1, 9, 10, 43])]) (.cond (.tmp 43) (.skip) (.exit 2))) (.block 3 (.reg 0 [zm 0 44 9, zd 1 45 .add 44 1, zm 2 9 45, .g (.keep [0, 1, 9, 10])]))
def slices_partitionEqualOrdered_int.b0 : C := .block 1 (.seq (.block 2 (.loop slices_partitionEqualOrdered_int.b1)) (.seq (.block 4 (.loop slices_partitionEqualOrdered_int.b2)) (.seq (.seq (.reg 0 [zm 0 62 9, zm 1 63 10, za 2 64 .gtr 62 63, .g (.keep [0, 1, 9, 10, 64])]) (.cond (.tmp 64) (.exit 0) (.skip))) (.seq (.reg 0 [zm 0 65 0, zm 1 66 9, zm 2 67 0, zm 3 68 10, zm 4 69 0, zm 5 70 10, zx 6 71 1 69 70, zl 7 72 1 71, zm 8 73 0, zm 9 74 9, zx 10 75 1 73 74, zl 11 76 1 75, zx 12 77 1 65 66, .o 13 (.store [] 1 (.tmp 77) (.tmp 72)), zx 14 78 1 67 68, .o 15 (.store [] 1 (.tmp 78) (.tmp 76)), .g (.keep [0, 1, 9, 10])]) (.seq (.reg 0 [zm 0 79 9, zd 1 80 .add 79 1, zm 2 9 80, .g (.keep [0, 1, 9, 10])]) (.reg 0 [zm 0 81 10, zd 1 82 .sub 81 1, zm 2 10 82, .g (.keep [0, 1, 9, 10])]))))))
def slices_partitionEqualOrdered_int.ir : C := .seq (.reg 0 [zk 0 8 0, .g (.keep [0, 1, 2, 3])]) (.seq (.reg 0 [zm 0 11 0, zm 1 12 1, zm 2 13 0, zm 3 14 3, zm 4 15 0, zm 5 16 3, zx 6 17 1 15 16, zl 7 18 1 17, zm 8 19 0, zm 9 20 1, zx 10 21 1 19 20, zl 11 22 1 21, zx 12 23 1 11 12, .o 13 (.store [] 1 (.tmp 23) (.tmp 18)), zx 14 24 1 13 14, .o 15 (.store [] 1 (.tmp 24) (.tmp 22)), .g (.keep [0, 1, 2])]) (.seq (.reg 0 [zm 0 25 1, zd 1 26 .add 25 1, zm 2 27 2, zd 3 28 .sub 27 1, zm 4 9 26, zm 5 10 28, .g (.keep [0, 1, 9, 10])]) (.seq (.block 0 (.loop slices_partitionEqualOrdered_int.b0)) (.seq (.reg 0 [zm 0 83 9, zm 1 8 83, .g (.keep [8])]) (.ret)))))
def slices_partitionEqualOrdered_int.rs : List Rs := [.sl 8]
theorem slices_partitionEqualOrdered_int.ok : isFn Tryz.prog slices_partitionEqualOrdered_int.id 84 slices_partitionEqualOrdered_int.ann slices_partitionEqualOrdered_int.ir slices_partitionEqualOrdered_int.rs := ⟨Tryz.f97, _, Tryz.func97, rfl, rfl, by kernel_rfl, by kernel_rfl⟩
-- slices.partitionOrdered[int]
def slices_partitionOrdered_int.ann : List (Nat × RA) := [(0, rk [0, 1, 2, 3]), (1, ro [0, 1, 2] [0, 1, 2, 3, 4, 5, 6, 7, 8, 9, 10, 11, 12, 13, 14, 15]), (2, rk [0, 1, 10, 11]), (3, ro [0, 1, 10, 11, 43] [0, 1, 2, 3, 4, 5, 6, 7, 8, 9, 10, 11, 12, 13]), (4, rk [0, 1, 10, 11]), (5, ro [0, 1, 10, 11, 60] [0, 1, 2, 3, 4, 5, 6, 7, 8, 9, 10, 11, 12, 13, 14]), (6, rk [0, 1, 10, 11]), (7, rk [0, 1, 10, 11, 65]), (8, ro [11] [0, 1, 2, 3, 4, 5, 6, 7, 8, 9, 10, 11, 12, 13, 14, 15]), (9, rk [8, 9]), (10, ro [0, 1, 10, 11] [0, 1, 2, 3, 4, 5, 6, 7, 8, 9, 10, 11, 12, 13, 14, 15]), (11, rk [0, 1, 10, 11]), (12, rk [0, 1, 10, 11]), (13, ro [0, 1, 10, 11, 112] [0, 1, 2, 3, 4, 5, 6, 7, 8, 9, 10, 11, 12, 13]), (14, rk [0, 1, 10, 11]), (15, ro [0, 1, 10, 11, 129] [0, 1, 2, 3, 4, 5, 6, 7, 8, 9, 10, 11, 12, 13, 14]), (16, rk [0, 1, 10, 11]), (17, rk [0, 1, 10, 11, 134]), (18, ro [0, 1, 10, 11] [0, 1, 2, 3, 4, 5, 6, 7, 8, 9, 10, 11, 12, 13, 14, 15]), (19, rk [0, 1, 10, 11]), (20, rk [0, 1, 10, 11]), (21, ro [11] [0, 1, 2, 3, 4, 5, 6, 7, 8, 9, 10, 11, 12, 13, 14, 15]), (22, rk [8, 9])]
def slices_partitionOrdered_int.b4 : C := .seq (.seq (.reg 0 [zm 0 115 10, zm 1 116 11, za 2 117 .leq 115 116, zm 3 118 117, ym 4 118 true 119 0, ym 5 118 true 120 11, yx 6 118 true 121 1 119 120, yl 7 118 true 122 1 121, ym 8 118 true 123 0, ym 9 118 true 124 1, yx 10 118 true 125 1 123 124, yl 11 118 true 126 1 125, .gd 12 118 true (some 127) (.call (some 127) cmp_Less_int.id [(.tmp 122), (.tmp 126)]), yq 13 118 true 128 127, zr 14 129 118 128 false, .g (.keep [0, 1, 10, 11, 129])]) (.cond (.tmp 129) (.skip) (.exit 8))) (.block 9 (.reg 0 [zm 0 130 11, zd 1 131 .sub 130 1, zm 2 11 131, .g (.keep [0, 1, 10, 11])]))
def slices_partitionOrdered_int.b3 : C := .seq (.seq (.reg 0 [zm 0 99 10, zm 1 100 11, za 2 101 .leq 99 100, zm 3 102 101, ym 4 102 true 103 0, ym 5 102 true 104 10, yx 6 102 true 105 1 103 104, yl 7 102 true 106 1 105, ym 8 102 true 107 0, ym 9 102 true 108 1, yx 10 102 true 109 1 107 108, yl 11 102 true 110 1 109, .gd 12 102 true (some 111) (.call (some 111) cmp_Less_int.id [(.tmp 106), (.tmp 110)]), zr 13 112 102 111 false, .g (.keep [0, 1, 10, 11, 112])]) (.cond (.tmp 112) (.skip) (.exit 6))) (.block 7 (.reg 0 [zm 0 113 10, zd 1 114 .add 113 1, zm 2 10 114, .g (.keep [0, 1, 10, 11])]))
def slices_partitionOrdered_int.b2 : C := .block 5 (.seq (.block 6 (.loop slices_partitionOrdered_int.b3)) (.seq (.block 8 (.loop slices_partitionOrdered_int.b4)) (.seq (.seq (.reg 0 [zm 0 132 10, zm 1 133 11, za 2 134 .gtr 132 133, .g (.keep [0, 1, 10, 11, 134])]) (.cond (.tmp 134) (.exit 4) (.skip))) (.seq (.reg 0 [zm 0 135 0, zm 1 136 10, zm 2 137 0, zm 3 138 11, zm 4 139 0, zm 5 140 11, zx 6 141 1 139 140, zl 7 142 1 141, zm 8 143 0, zm 9 144 10, zx 10 145 1 143 144, zl 11 146 1 145, zx 12 147 1 135 136, .o 13 (.store [] 1 (.tmp 147) (.tmp 142)), zx 14 148 1 137 138, .o 15 (.store [] 1 (.tmp 148) (.tmp 146)), .g (.keep [0, 1, 10, 11])]) (.seq (.reg 0 [zm 0 149 10, zd 1 150 .add 149 1, zm 2 10 150, .g (.keep [0, 1, 10, 11])]) (.reg 0 [zm 0 151 11, zd 1 152 .sub 151 1, zm 2 11 152, .g (.keep [0, 1, 10, 11])]))))))
def slices_partitionOrdered_int.b1 : C := .seq (.seq (.reg 0 [zm 0 46 10, zm 1 47 11, za 2 48 .leq 46 47, zm 3 49 48, ym 4 49 true 50 0, ym 5 49 true 51 11, yx 6 49 true 52 1 50 51, yl 7 49 true 53 1 52, ym 8 49 true 54 0, ym 9 49 true 55 1, yx 10 49 true 56 1 54 55, yl 11 49 true 57 1 56, .gd 12 49 true (some 58) (.call (some 58) cmp_Less_int.id [(.tmp 53), (.tmp 57)]), yq 13 49 true 59 58, zr 14 60 49 59 false, .g (.keep [0, 1, 10, 11, 60])]) (.cond (.tmp 60) (.skip) (.exit 2))) (.block 3 (.reg 0 [zm 0 61 11, zd 1 62 .sub 61 1, zm 2 11 62, .g (.keep [0, 1, 10, 11])]))
def slices_partitionOrdered_int.b0 : C := .seq (.seq (.reg 0 [zm 0 30 10, zm 1 31 11, za 2 32 .leq 30 31, zm 3 33 32, ym 4 33 true 34 0, ym 5 33 true 35 10, yx 6 33 true 36 1 34 35, yl 7 33 true 37 1 36, ym 8 33 true 38 0, ym 9 33 true 39 1, yx 10 33 true 40 1 38 39, yl 11 33 true 41 1 40, .gd 12 33 true (some 42) (.call (some 42) cmp_Less_int.id [(.tmp 37), (.tmp 41)]), zr 13 43 33 42 false, .g (.keep [0, 1, 10, 11, 43])]) (.cond (.tmp 43) (.skip) (.exit 0))) (.block 1 (.reg 0 [zm 0 44 10, zd 1 45 .add 44 1, zm 2 10 45, .g (.keep [0, 1, 10, 11])]))
def slices_partitionOrdered_int.ir : C := .seq (.reg 0 [zk 0 8 0, zb 1 9 false, .g (.keep [0, 1, 2, 3])]) (.seq (.reg 0 [zm 0 12 0, zm 1 13 1, zm 2 14 0, zm 3 15 3, zm 4 16 0, zm 5 17 3, zx 6 18 1 16 17, zl 7 19 1 18, zm 8 20 0, zm 9 21 1, zx 10 22 1 20 21, zl 11 23 1 22, zx 12 24 1 12 13, .o 13 (.store [] 1 (.tmp 24) (.tmp 19)), zx 14 25 1 14 15, .o 15 (.store [] 1 (.tmp 25) (.tmp 23)), .g (.keep [0, 1, 2])]) (.seq (.reg 0 [zm 0 26 1, zd 1 27 .add 26 1, zm 2 28 2, zd 3 29 .sub 28 1, zm 4 10 27, zm 5 11 29, .g (.keep [0, 1, 10, 11])]) (.seq (.block 0 (.loop slices_partitionOrdered_int.b0)) (.seq (.block 2 (.loop slices_partitionOrdered_int.b1)) (.seq (.seq (.reg 0 [zm 0 63 10, zm 1 64 11, za 2 65 .gtr 63 64, .g (.keep [0, 1, 10, 11, 65])]) (.cond (.tmp 65) (.seq (.reg 0 [zm 0 66 0, zm 1 67 11, zm 2 68 0, zm 3 69 1, zm 4 70 0, zm 5 71 1, zx 6 72 1 70 71, zl 7 73 1 72, zm 8 74 0, zm 9 75 11, zx 10 76 1 74 75, zl 11 77 1 76, zx 12 78 1 66 67, .o 13 (.store [] 1 (.tmp 78) (.tmp 73)), zx 14 79 1 68 69, .o 15 (.store [] 1 (.tmp 79) (.tmp 77)), .g (.keep [11])]) (.seq (.reg 0 [zm 0 80 11, zm 1 8 80, zb 2 9 true, .g (.keep [8, 9])]) (.ret))) (.skip))) (.seq (.reg 0 [zm 0 81 0, zm 1 82 10, zm 2 83 0, zm 3 84 11, zm 4 85 0, zm 5 86 11, zx 6 87 1 85 86, zl 7 88 1 87, zm 8 89 0, zm 9 90 10, zx 10 91 1 89 90, zl 11 92 1 91, zx 12 93 1 81 82, .o 13 (.store [] 1 (.tmp 93) (.tmp 88)), zx 14 94 1 83 84, .o 15 (.store [] 1 (.tmp 94) (.tmp 92)), .g (.keep [0, 1, 10, 11])]) (.seq (.reg 0 [zm 0 95 10, zd 1 96 .add 95 1, zm 2 10 96, .g (.keep [0, 1, 10, 11])]) (.seq (.reg 0 [zm 0 97 11, zd 1 98 .sub 97 1, zm 2 11 98, .g (.keep [0, 1, 10, 11])]) (.seq (.block 4 (.loop slices_partitionOrdered_int.b2)) (.seq (.reg 0 [zm 0 153 0, zm 1 154 11, zm 2 155 0, zm 3 156 1, zm 4 157 0, zm 5 158 1, zx 6 159 1 157 158, zl 7 160 1 159, zm 8 161 0, zm 9 162 11, zx 10 163 1 161 162, zl 11 164 1 163, zx 12 165 1 153 154, .o 13 (.store [] 1 (.tmp 165) (.tmp 160)), zx 14 166 1 155 156, .o 15 (.store [] 1 (.tmp 166) (.tmp 164)), .g (.keep [11])]) (.seq (.reg 0 [zm 0 167 11, zm 1 8 167, zb 2 9 false, .g (.keep [8, 9])]) (.ret))))))))))))
def slices_partitionOrdered_int.rs : List Rs := [.sl 8, .sl 9]
theorem slices_partitionOrdered_int.ok : isFn Tryz.prog slices_partitionOrdered_int.id 168 slices_partitionOrdered_int.ann slices_partitionOrdered_int.ir slices_partitionOrdered_int.rs := ⟨Tryz.f98, _, Tryz.func98, rfl, rfl, by kernel_rfl, by kernel_rfl⟩
-- math/bits.Len32
-- math/bits.Len64
def math_bits_Len64.ann : List (Nat × RA) := [(0, rk [0, 2]), (1, rk [0, 2, 4]), (2, rk [0]), (3, rk [0, 2]), (4, rk [0, 2, 8]), (5, rk [0, 2]), (6, rk [0, 2]), (7, rk [0, 2, 14]), (8, rk [0, 2]), (9, rk [0, 2]), (10, rk [2])]
def math_bits_Len64.ir : C := .seq (.reg 0 [zk 0 2 0, .g (.keep [0, 2])]) (.seq (.seq (.reg 0 [zm 0 3 0, .o 1 (.lt (some 4) (.bin .geq (.tmp 3) (.const (.int .u64 4294967296)))), .g (.keep [0, 2, 4])]) (.cond (.tmp 4) (.seq (.reg 0 [zm 0 5 0, .o 1 (.lt (some 6) (.bin .shr (.tmp 5) (.const (.int .u64 32)))), zm 2 0 6, .g (.keep [0])]) (.reg 0 [zk 0 2 32, .g (.keep [0, 2])])) (.skip))) (.seq (.seq (.reg 0 [zm 0 7 0, .o 1 (.lt (some 8) (.bin .geq (.tmp 7) (.const (.int .u64 65536)))), .g (.keep [0, 2, 8])]) (.cond (.tmp 8) (.seq (.reg 0 [zm 0 9 0, .o 1 (.lt (some 10) (.bin .shr (.tmp 9) (.const (.int .u64 16)))), zm 2 0 10, .g (.keep [0, 2])]) (.reg 0 [zm 0 11 2, zd 1 12 .add 11 16, zm 2 2 12, .g (.keep [0, 2])])) (.skip))) (.seq (.seq (.reg 0 [zm 0 13 0, .o 1 (.lt (some 14) (.bin .geq (.tmp 13) (.const (.int .u64 256)))), .g (.keep [0, 2, 14])]) (.cond (.tmp 14) (.seq (.reg 0 [zm 0 15 0, .o 1 (.lt (some 16) (.bin .shr (.tmp 15) (.const (.int .u64 8)))), zm 2 0 16, .g (.keep [0, 2])]) (.reg 0 [zm 0 17 2, zd 1 18 .add 17 8, zm 2 2 18, .g (.keep [0, 2])])) (.skip))) (.seq (.reg 0 [zm 0 19 2, zm 1 20 0, .o 2 (.lt (some 21) (.conv .u8 (.tmp 20))), .o 3 (.lt (some 22) (.ixStr (.const (.string { data := #[0, 1, 2, 2, 3, 3, 3, 3, 4, 4, 4, 4, 4, 4, 4, 4, 5, 5, 5, 5, 5, 5, 5, 5, 5, 5, 5, 5, 5, 5, 5, 5, 6, 6, 6, 6, 6, 6, 6, 6, 6, 6, 6, 6, 6, 6, 6, 6, 6, 6, 6, 6, 6, 6, 6, 6, 6, 6, 6, 6, 6, 6, 6, 6, 7, 7, 7, 7, 7, 7, 7, 7, 7, 7, 7, 7, 7, 7, 7, 7, 7, 7, 7, 7, 7, 7, 7, 7, 7, 7, 7, 7, 7, 7, 7, 7, 7, 7, 7, 7, 7, 7, 7, 7, 7, 7, 7, 7, 7, 7, 7, 7, 7, 7, 7, 7, 7, 7, 7, 7, 7, 7, 7, 7, 7, 7, 7, 7, 8, 8, 8, 8, 8, 8, 8, 8, 8, 8, 8, 8, 8, 8, 8, 8, 8, 8, 8, 8, 8, 8, 8, 8, 8, 8, 8, 8, 8, 8, 8, 8, 8, 8, 8, 8, 8, 8, 8, 8, 8, 8, 8, 8, 8, 8, 8, 8, 8, 8, 8, 8, 8, 8, 8, 8, 8, 8, 8, 8, 8, 8, 8, 8, 8, 8, 8, 8, 8, 8, 8, 8, 8, 8, 8, 8, 8, 8, 8, 8, 8, 8, 8, 8, 8, 8, 8, 8, 8, 8, 8, 8, 8, 8, 8, 8, 8, 8, 8, 8, 8, 8, 8, 8, 8, 8, 8, 8, 8, 8, 8, 8, 8, 8, 8, 8, 8, 8, 8, 8, 8, 8, 8, 8, 8, 8, 8, 8] })) (.tmp 21))), .o 4 (.lt (some 23) (.conv .i64 (.tmp 22))), za 5 24 .add 19 23, zm 6 2 24, .g (.keep [2])]) (.ret)))))
def math_bits_Len64.rs : List Rs := [.sl 2]
theorem math_bits_Len64.ok : isFn Tryz.prog math_bits_Len64.id 25 math_bits_Len64.ann math_bits_Len64.ir math_bits_Len64.rs := ⟨Tryz.f100, _, Tryz.func100, rfl, rfl, by kernel_rfl, by kernel_rfl⟩
-- slices.siftDownOrdered[int]
def slices_siftDownOrdered_int.ann : List (Nat × RA) := [(0, rk [0, 2, 3, 8]), (1, rk [0, 2, 3, 8, 9]), (2, rk [0, 2, 3, 8, 9, 16]), (3, ro [0, 2, 3, 8, 9, 36] [0, 1, 2, 3, 4, 5, 6, 7, 8, 9, 10, 11, 12, 13, 14, 15, 16, 17, 18, 19]), (4, rk [0, 2, 3, 8, 9]), (5, ro [0, 2, 3, 8, 9, 52] [0, 1, 2, 3, 4, 5, 6, 7, 8, 9, 10, 11, 12, 13]), (6, ro [0, 2, 3, 9] [0, 1, 2, 3, 4, 5, 6, 7, 8, 9, 10, 11, 12, 13, 14, 15, 16, 17, 18, 19, 20, 21, 22, 23]), (7, rk [0, 2, 3, 8])]
def slices_siftDownOrdered_int.b0 : C := .block 1 (.seq (.reg 0 [zm 0 11 8, .o 1 (.lt (some 12) (.bin .mul (.const (.int .i64 2)) (.tmp 11))), zd 2 13 .add 12 1, zm 3 9 13, .g (.keep [0, 2, 3, 8, 9])]) (.seq (.seq (.reg 0 [zm 0 14 9, zm 1 15 2, za 2 16 .geq 14 15, .g (.keep [0, 2, 3, 8, 9, 16])]) (.cond (.tmp 16) (.exit 0) (.skip))) (.seq (.seq (.reg 0 [zm 0 17 9, zd 1 18 .add 17 1, zm 2 19 2, za 3 20 .lss 18 19, zm 4 21 20, ym 5 21 true 22 0, ym 6 21 true 23 3, ym 7 21 true 24 9, ya 8 21 true 25 .add 23 24, yx 9 21 true 26 1 22 25, yl 10 21 true 27 1 26, ym 11 21 true 28 0, ym 12 21 true 29 3, ym 13 21 true 30 9, ya 14 21 true 31 .add 29 30, yd 15 21 true 32 .add 31 1, yx 16 21 true 33 1 28 32, yl 17 21 true 34 1 33, .gd 18 21 true (some 35) (.call (some 35) cmp_Less_int.id [(.tmp 27), (.tmp 34)]), zr 19 36 21 35 false, .g (.keep [0, 2, 3, 8, 9, 36])]) (.cond (.tmp 36) (.reg 0 [zm 0 37 9, zd 1 38 .add 37 1, zm 2 9 38, .g (.keep [0, 2, 3, 8, 9])]) (.skip))) (.seq (.seq (.reg 0 [zm 0 39 0, zm 1 40 3, zm 2 41 8, za 3 42 .add 40 41, zx 4 43 1 39 42, zl 5 44 1 43, zm 6 45 0, zm 7 46 3, zm 8 47 9, za 9 48 .add 46 47, zx 10 49 1 45 48, zl 11 50 1 49, .o 12 (.call (some 51) cmp_Less_int.id [(.tmp 44), (.tmp 50)]), zq 13 52 51, .g (.keep [0, 2, 3, 8, 9, 52])]) (.cond (.tmp 52) (.ret) (.skip))) (.seq (.reg 0 [zm 0 53 0, zm 1 54 3, zm 2 55 8, za 3 56 .add 54 55, zm 4 57 0, zm 5 58 3, zm 6 59 9, za 7 60 .add 58 59, zm 8 61 0, zm 9 62 3, zm 10 63 9, za 11 64 .add 62 63, zx 12 65 1 61 64, zl 13 66 1 65, zm 14 67 0, zm 15 68 3, zm 16 69 8, za 17 70 .add 68 69, zx 18 71 1 67 70, zl 19 72 1 71, zx 20 73 1 53 56, .o 21 (.store [] 1 (.tmp 73) (.tmp 66)), zx 22 74 1 57 60, .o 23 (.store [] 1 (.tmp 74) (.tmp 72)), .g (.keep [0, 2, 3, 9])]) (.reg 0 [zm 0 75 9, zm 1 8 75, .g (.keep [0, 2, 3, 8])]))))))
def slices_siftDownOrdered_int.ir : C := .seq (.reg 0 [zm 0 10 1, zm 1 8 10, .g (.keep [0, 2, 3, 8])]) (.block 0 (.loop slices_siftDownOrdered_int.b0))
def slices_siftDownOrdered_int.rs : List Rs := []
theorem slices_siftDownOrdered_int.ok : isFn Tryz.prog slices_siftDownOrdered_int.id 76 slices_siftDownOrdered_int.ann slices_siftDownOrdered_int.ir slices_siftDownOrdered_int.rs := ⟨Tryz.f105, _, Tryz.func105, rfl, rfl, by kernel_rfl, by kernel_rfl⟩
-- slices.nextPowerOfTwo
def slices_nextPowerOfTwo.ann : List (Nat × RA) := [(0, rk [0]), (1, rk [2])]
def slices_nextPowerOfTwo.ir : C := .seq (.reg 0 [.o 0 (.lt (some 2) (.mov (.const (.int .u64 0)))), .g (.keep [0])]) (.seq (.reg 0 [zm 0 3 0, .o 1 (.lt (some 4) (.conv .u64 (.tmp 3))), .o 2 (.call (some 5) math_bits_Len.id [(.tmp 4)]), .o 3 (.lt (some 6) (.bin .shl (.const (.int .u64 1)) (.tmp 5))), zm 4 2 6, .g (.keep [2])]) (.ret))
def slices_nextPowerOfTwo.rs : List Rs := [.sl 2]
theorem slices_nextPowerOfTwo.ok : isFn Tryz.prog slices_nextPowerOfTwo.id 7 slices_nextPowerOfTwo.ann slices_nextPowerOfTwo.ir slices_nextPowerOfTwo.rs := ⟨Tryz.f106, _, Tryz.func106, rfl, rfl, by kernel_rfl, by kernel_rfl⟩
-- (*slices.xorshift).Next
def slices_xorshift_Next.ann : List (Nat × RA) := [(0, rk [0]), (1, ro [0] [0, 1, 2, 3, 4, 5, 6, 7, 8, 9]), (2, ro [0] [0, 1, 2, 3, 4, 5, 6, 7, 8, 9]), (3, ro [0] [0, 1, 2, 3, 4, 5, 6, 7, 8, 9]), (4, rk [2])]
def slices_xorshift_Next.ir : C := .seq (.reg 0 [.o 0 (.lt (some 2) (.mov (.const (.int .u64 0)))), .g (.keep [0])]) (.seq (.reg 0 [zm 0 3 0, zc 1 4 3, zl 2 5 1 4, zm 3 6 0, zc 4 7 6, zl 5 8 1 7, .o 6 (.lt (some 9) (.bin .shl (.tmp 8) (.const (.int .u64 13)))), za 7 10 .xor 5 9, zc 8 11 3, .o 9 (.store [] 1 (.tmp 11) (.tmp 10)), .g (.keep [0])]) (.seq (.reg 0 [zm 0 12 0, zc 1 13 12, zl 2 14 1 13, zm 3 15 0, zc 4 16 15, zl 5 17 1 16, .o 6 (.lt (some 18) (.bin .shr (.tmp 17) (.const (.int .u64 7)))), za 7 19 .xor 14 18, zc 8 20 12, .o 9 (.store [] 1 (.tmp 20) (.tmp 19)), .g (.keep [0])]) (.seq (.reg 0 [zm 0 21 0, zc 1 22 21, zl 2 23 1 22, zm 3 24 0, zc 4 25 24, zl 5 26 1 25, .o 6 (.lt (some 27) (.bin .shl (.tmp 26) (.const (.int .u64 17)))), za 7 28 .xor 23 27, zc 8 29 21, .o 9 (.store [] 1 (.tmp 29) (.tmp 28)), .g (.keep [0])]) (.seq (.reg 0 [zm 0 30 0, zc 1 31 30, zl 2 32 1 31, zm 3 2 32, .g (.keep [2])]) (.ret)))))
def slices_xorshift_Next.rs : List Rs := [.sl 2]
theorem slices_xorshift_Next.ok : isFn Tryz.prog slices_xorshift_Next.id 33 slices_xorshift_Next.ann slices_xorshift_Next.ir slices_xorshift_Next.rs := ⟨Tryz.f107, _, Tryz.func107, rfl, rfl, by kernel_rfl, by kernel_rfl⟩
-- slices.medianAdjacentOrdered[int]
def slices_medianAdjacentOrdered_int.ann : List (Nat × RA) := [(0, rk [0, 1, 2]), (1, rp [6] [(7, [1000000])])]
def slices_medianAdjacentOrdered_int.ir : C := .seq (.reg 0 [zk 0 6 0, .g (.keep [0, 1, 2])]) (.seq (.reg 0 [zm 0 7 0, zm 1 8 1, zd 2 9 .sub 8 1, zm 3 10 1, zm 4 11 1, zd 5 12 .add 11 1, zm 6 13 2, .o 7 (.callm (some 14) (.func slices_medianOrdered_int.id) [(.tmp 7), (.tmp 9), (.tmp 10), (.tmp 12), (.tmp 13)]), zm 8 6 14, .g (.keep [6])]) (.ret))
def slices_medianAdjacentOrdered_int.rs : List Rs := [.sl 6]
theorem slices_medianAdjacentOrdered_int.ok : isFn Tryz.prog slices_medianAdjacentOrdered_int.id 15 slices_medianAdjacentOrdered_int.ann slices_medianAdjacentOrdered_int.ir slices_medianAdjacentOrdered_int.rs := ⟨Tryz.f108, _, Tryz.func108, rfl, rfl, by kernel_rfl, by kernel_rfl⟩
-- slices.medianOrdered[int]
def slices_medianOrdered_int.ann : List (Nat × RA) := [(0, rk [0, 1, 2, 3, 4]), (1, rp [0, 1, 2, 3, 4] [(4, [1000000])]), (2, rp [0, 1, 2, 4] [(4, [1000000])]), (3, rp [2] [(4, [1000000])]), (4, rk [10])]
def slices_medianOrdered_int.ir : C := .seq (.reg 0 [zk 0 10 0, .g (.keep [0, 1, 2, 3, 4])]) (.seq (.reg 0 [zm 0 12 0, zm 1 13 1, zm 2 14 2, zm 3 15 4, .o 4 (.callm (some 16) (.func slices_order2Ordered_int.id) [(.tmp 12), (.tmp 13), (.tmp 14), (.tmp 15)]), zm 5 11 16, ze 6 17 11 0, ze 7 18 11 1, zm 8 1 17, zm 9 2 18, .g (.keep [0, 1, 2, 3, 4])]) (.seq (.reg 0 [zm 0 20 0, zm 1 21 2, zm 2 22 3, zm 3 23 4, .o 4 (.callm (some 24) (.func slices_order2Ordered_int.id) [(.tmp 20), (.tmp 21), (.tmp 22), (.tmp 23)]), zm 5 19 24, ze 6 25 19 0, ze 7 26 19 1, zm 8 2 25, zm 9 3 26, .g (.keep [0, 1, 2, 4])]) (.seq (.reg 0 [zm 0 28 0, zm 1 29 1, zm 2 30 2, zm 3 31 4, .o 4 (.callm (some 32) (.func slices_order2Ordered_int.id) [(.tmp 28), (.tmp 29), (.tmp 30), (.tmp 31)]), zm 5 27 32, ze 6 33 27 0, ze 7 34 27 1, zm 8 1 33, zm 9 2 34, .g (.keep [2])]) (.seq (.reg 0 [zm 0 35 2, zm 1 10 35, .g (.keep [10])]) (.ret)))))
def slices_medianOrdered_int.rs : List Rs := [.sl 10]
theorem slices_medianOrdered_int.ok : isFn Tryz.prog slices_medianOrdered_int.id 36 slices_medianOrdered_int.ann slices_medianOrdered_int.ir slices_medianOrdered_int.rs := ⟨Tryz.f109, _, Tryz.func109, rfl, rfl, by kernel_rfl, by kernel_rfl⟩
-- cmp.isNaN[int]
def cmp_isNaN_int.ann : List (Nat × RA) := [(0, rk [0]), (1, rk [2])]
def cmp_isNaN_int.ir : C := .seq (.reg 0 [zb 0 2 false, .g (.keep [0])]) (.seq (.reg 0 [zm 0 3 0, zm 1 4 0, za 2 5 .neq 3 4, zm 3 2 5, .g (.keep [2])]) (.ret))
def cmp_isNaN_int.rs : List Rs := [.sl 2]
theorem cmp_isNaN_int.ok : isFn Tryz.prog cmp_isNaN_int.id 6 cmp_isNaN_int.ann cmp_isNaN_int.ir cmp_isNaN_int.rs := ⟨Tryz.f110, _, Tryz.func110, rfl, rfl, by kernel_rfl, by kernel_rfl⟩
-- slices.order2Ordered[int]
def slices_order2Ordered_int.ann : List (Nat × RA) := [(0, rk [0, 1, 2, 3]), (1, ro [1, 2, 3, 18] [0, 1, 2, 3, 4, 5, 6, 7, 8]), (2, rk [1, 2]), (3, rk [8, 9]), (4, rk [8, 9])]
def slices_order2Ordered_int.ir : C := .seq (.reg 0 [zk 0 8 0, zk 1 9 0, .g (.keep [0, 1, 2, 3])]) (.seq (.seq (.reg 0 [zm 0 10 0, zm 1 11 2, zx 2 12 1 10 11, zl 3 13 1 12, zm 4 14 0, zm 5 15 1, zx 6 16 1 14 15, zl 7 17 1 16, .o 8 (.call (some 18) cmp_Less_int.id [(.tmp 13), (.tmp 17)]), .g (.keep [1, 2, 3, 18])]) (.cond (.tmp 18) (.seq (.reg 0 [zm 0 19 3, zc 1 20 19, zl 2 21 1 20, zd 3 22 .add 21 1, zc 4 23 19, .o 5 (.store [] 1 (.tmp 23) (.tmp 22)), .g (.keep [1, 2])]) (.seq (.reg 0 [zm 0 24 2, zm 1 25 1, zm 2 8 24, zm 3 9 25, .g (.keep [8, 9])]) (.ret))) (.skip))) (.seq (.reg 0 [zm 0 26 1, zm 1 27 2, zm 2 8 26, zm 3 9 27, .g (.keep [8, 9])]) (.ret)))
def slices_order2Ordered_int.rs : List Rs := [.sl 8, .sl 9]
theorem slices_order2Ordered_int.ok : isFn Tryz.prog slices_order2Ordered_int.id 28 slices_order2Ordered_int.ann slices_order2Ordered_int.ir slices_order2Ordered_int.rs := ⟨Tryz.f111, _, Tryz.func111, rfl, rfl, by kernel_rfl, by kernel_rfl⟩
end Go.Abs.G

namespace Go.Abs.G
open Go.Proofs
set_option linter.unusedVariables false
def hallmarklaw13_HallLess.id : FuncId := 5
@[simp] theorem hallmarklaw13_HallLess.okf : okFunc Tryz.prog hallmarklaw13_HallLess.id = true := by kernel_rfl
def hallmarklaw13_few.id : FuncId := 6
@[simp] theorem hallmarklaw13_few.okf : okFunc Tryz.prog hallmarklaw13_few.id = true := by kernel_rfl
def hallmarklaw13_known.id : FuncId := 7
@[simp] theorem hallmarklaw13_known.okf : okFunc Tryz.prog hallmarklaw13_known.id = true := by kernel_rfl
def dom_New.id : FuncId := 8
@[simp] theorem dom_New.okf : okFunc Tryz.prog dom_New.id = true := by kernel_rfl
def dom_Store_Cut.id : FuncId := 10
@[simp] theorem dom_Store_Cut.okf : okFunc Tryz.prog dom_Store_Cut.id = true := by kernel_rfl
def hall_Cuts.id : FuncId := 11
@[simp] theorem hall_Cuts.okf : okFunc Tryz.prog hall_Cuts.id = true := by kernel_rfl
def hallmarklaw13_behind.id : FuncId := 13
@[simp] theorem hallmarklaw13_behind.okf : okFunc Tryz.prog hallmarklaw13_behind.id = true := by kernel_rfl
def hall_Fails.id : FuncId := 14
@[simp] theorem hall_Fails.okf : okFunc Tryz.prog hall_Fails.id = true := by kernel_rfl
def dom_Store_Lo.id : FuncId := 16
@[simp] theorem dom_Store_Lo.okf : okFunc Tryz.prog dom_Store_Lo.id = true := by kernel_rfl
def dom_Store_Hi.id : FuncId := 17
@[simp] theorem dom_Store_Hi.okf : okFunc Tryz.prog dom_Store_Hi.id = true := by kernel_rfl
def dom_Store_Has.id : FuncId := 18
@[simp] theorem dom_Store_Has.okf : okFunc Tryz.prog dom_Store_Has.id = true := by kernel_rfl
def hallmarklaw13_goes.id : FuncId := 19
@[simp] theorem hallmarklaw13_goes.okf : okFunc Tryz.prog hallmarklaw13_goes.id = true := by kernel_rfl
def dom_Store_Copy.id : FuncId := 20
@[simp] theorem dom_Store_Copy.okf : okFunc Tryz.prog dom_Store_Copy.id = true := by kernel_rfl
def hallmarkroom_Many.id : FuncId := 21
@[simp] theorem hallmarkroom_Many.okf : okFunc Tryz.prog hallmarkroom_Many.id = true := by kernel_rfl
def hallmarkroom_Count_Model.id : FuncId := 22
@[simp] theorem hallmarkroom_Count_Model.okf : okFunc Tryz.prog hallmarkroom_Count_Model.id = true := by kernel_rfl
def hallmarkroom_Count_Add.id : FuncId := 23
@[simp] theorem hallmarkroom_Count_Add.okf : okFunc Tryz.prog hallmarkroom_Count_Add.id = true := by kernel_rfl
def hallmarkroom_Count_Ok.id : FuncId := 24
@[simp] theorem hallmarkroom_Count_Ok.okf : okFunc Tryz.prog hallmarkroom_Count_Ok.id = true := by kernel_rfl
def hallmarklaw13_sameHall.id : FuncId := 25
@[simp] theorem hallmarklaw13_sameHall.okf : okFunc Tryz.prog hallmarklaw13_sameHall.id = true := by kernel_rfl
def model_Check.id : FuncId := 26
@[simp] theorem model_Check.okf : okFunc Tryz.prog model_Check.id = true := by kernel_rfl
def dom_Store_Vars.id : FuncId := 27
@[simp] theorem dom_Store_Vars.okf : okFunc Tryz.prog dom_Store_Vars.id = true := by kernel_rfl
def dom_Store_Values.id : FuncId := 28
@[simp] theorem dom_Store_Values.okf : okFunc Tryz.prog dom_Store_Values.id = true := by kernel_rfl
def dom_Store_is.id : FuncId := 30
@[simp] theorem dom_Store_is.okf : okFunc Tryz.prog dom_Store_is.id = true := by kernel_rfl
def dom_goes.id : FuncId := 31
@[simp] theorem dom_goes.okf : okFunc Tryz.prog dom_goes.id = true := by kernel_rfl
def dom_set_drop.id : FuncId := 32
@[simp] theorem dom_set_drop.okf : okFunc Tryz.prog dom_set_drop.id = true := by kernel_rfl
def hall_places.id : FuncId := 33
@[simp] theorem hall_places.okf : okFunc Tryz.prog hall_places.id = true := by kernel_rfl
def hall_intervals.id : FuncId := 34
@[simp] theorem hall_intervals.okf : okFunc Tryz.prog hall_intervals.id = true := by kernel_rfl
def hall_ends_size.id : FuncId := 35
@[simp] theorem hall_ends_size.okf : okFunc Tryz.prog hall_ends_size.id = true := by kernel_rfl
def hall_sorted.id : FuncId := 36
@[simp] theorem hall_sorted.okf : okFunc Tryz.prog hall_sorted.id = true := by kernel_rfl
def slices_Clone_Lint_int.id : FuncId := 37
@[simp] theorem slices_Clone_Lint_int.okf : okFunc Tryz.prog slices_Clone_Lint_int.id = true := by kernel_rfl
def slices_IndexFunc_Lhall_interval_hall_interval.id : FuncId := 38
@[simp] theorem slices_IndexFunc_Lhall_interval_hall_interval.okf : okFunc Tryz.prog slices_IndexFunc_Lhall_interval_hall_interval.id = true := by kernel_rfl
def hall_Cuts_1.id : FuncId := 39
@[simp] theorem hall_Cuts_1.okf : okFunc Tryz.prog hall_Cuts_1.id = true := by kernel_rfl
def hall_ends_has.id : FuncId := 40
@[simp] theorem hall_ends_has.okf : okFunc Tryz.prog hall_ends_has.id = true := by kernel_rfl
def hall_holds.id : FuncId := 41
@[simp] theorem hall_holds.okf : okFunc Tryz.prog hall_holds.id = true := by kernel_rfl
def hall_interval_hall.id : FuncId := 42
@[simp] theorem hall_interval_hall.okf : okFunc Tryz.prog hall_interval_hall.id = true := by kernel_rfl
def dom_set_has.id : FuncId := 43
@[simp] theorem dom_set_has.okf : okFunc Tryz.prog dom_set_has.id = true := by kernel_rfl
def slices_Clone_Ldom_domain_dom_domain.id : FuncId := 44
@[simp] theorem slices_Clone_Ldom_domain_dom_domain.okf : okFunc Tryz.prog slices_Clone_Ldom_domain_dom_domain.id = true := by kernel_rfl
def hallmarkroom_Count_Text.id : FuncId := 45
@[simp] theorem hallmarkroom_Count_Text.okf : okFunc Tryz.prog hallmarkroom_Count_Text.id = true := by kernel_rfl
def hallmarkroom_Count_Con.id : FuncId := 46
@[simp] theorem hallmarkroom_Count_Con.okf : okFunc Tryz.prog hallmarkroom_Count_Con.id = true := by kernel_rfl
def hallmarklaw13_sameInts.id : FuncId := 47
@[simp] theorem hallmarklaw13_sameInts.okf : okFunc Tryz.prog hallmarklaw13_sameInts.id = true := by kernel_rfl
def model_variable.id : FuncId := 48
@[simp] theorem model_variable.okf : okFunc Tryz.prog model_variable.id = true := by kernel_rfl
def model_con.id : FuncId := 49
@[simp] theorem model_con.okf : okFunc Tryz.prog model_con.id = true := by kernel_rfl
def model_goal.id : FuncId := 50
@[simp] theorem model_goal.okf : okFunc Tryz.prog model_goal.id = true := by kernel_rfl
def hall_inside.id : FuncId := 51
@[simp] theorem hall_inside.okf : okFunc Tryz.prog hall_inside.id = true := by kernel_rfl
def slices_Compact_Lint_int.id : FuncId := 53
@[simp] theorem slices_Compact_Lint_int.okf : okFunc Tryz.prog slices_Compact_Lint_int.id = true := by kernel_rfl
def hall_mask.id : FuncId := 54
@[simp] theorem hall_mask.okf : okFunc Tryz.prog hall_mask.id = true := by kernel_rfl
def slices_Contains_Lint_int.id : FuncId := 55
@[simp] theorem slices_Contains_Lint_int.okf : okFunc Tryz.prog slices_Contains_Lint_int.id = true := by kernel_rfl
def hallmarkroom_Count_Lists.id : FuncId := 56
@[simp] theorem hallmarkroom_Count_Lists.okf : okFunc Tryz.prog hallmarkroom_Count_Lists.id = true := by kernel_rfl
def model_isName.id : FuncId := 57
@[simp] theorem model_isName.okf : okFunc Tryz.prog model_isName.id = true := by kernel_rfl
def slices_ContainsFunc_Lapi_Var_api_Var.id : FuncId := 58
@[simp] theorem slices_ContainsFunc_Lapi_Var_api_Var.okf : okFunc Tryz.prog slices_ContainsFunc_Lapi_Var_api_Var.id = true := by kernel_rfl
def model_variable_1.id : FuncId := 59
@[simp] theorem model_variable_1.okf : okFunc Tryz.prog model_variable_1.id = true := by kernel_rfl
def model_within.id : FuncId := 60
@[simp] theorem model_within.okf : okFunc Tryz.prog model_within.id = true := by kernel_rfl
def model_kinds.id : FuncId := 61
@[simp] theorem model_kinds.okf : okFunc Tryz.prog model_kinds.id = true := by kernel_rfl
def model_terms.id : FuncId := 62
@[simp] theorem model_terms.okf : okFunc Tryz.prog model_terms.id = true := by kernel_rfl
def model_con_1.id : FuncId := 63
@[simp] theorem model_con_1.okf : okFunc Tryz.prog model_con_1.id = true := by kernel_rfl
def model_field.id : FuncId := 64
@[simp] theorem model_field.okf : okFunc Tryz.prog model_field.id = true := by kernel_rfl
def model_counts.id : FuncId := 65
@[simp] theorem model_counts.okf : okFunc Tryz.prog model_counts.id = true := by kernel_rfl
def model_wide.id : FuncId := 66
@[simp] theorem model_wide.okf : okFunc Tryz.prog model_wide.id = true := by kernel_rfl
def slices_ContainsFunc_Lint_int.id : FuncId := 67
@[simp] theorem slices_ContainsFunc_Lint_int.okf : okFunc Tryz.prog slices_ContainsFunc_Lint_int.id = true := by kernel_rfl
def model_great.id : FuncId := 68
@[simp] theorem model_great.okf : okFunc Tryz.prog model_great.id = true := by kernel_rfl
def slices_ContainsFunc_LLint_Lint.id : FuncId := 69
@[simp] theorem slices_ContainsFunc_LLint_Lint.okf : okFunc Tryz.prog slices_ContainsFunc_LLint_Lint.id = true := by kernel_rfl
def slices_IndexFunc_Lapi_Var_api_Var.id : FuncId := 73
@[simp] theorem slices_IndexFunc_Lapi_Var_api_Var.okf : okFunc Tryz.prog slices_IndexFunc_Lapi_Var_api_Var.id = true := by kernel_rfl
def model_lin.id : FuncId := 74
@[simp] theorem model_lin.okf : okFunc Tryz.prog model_lin.id = true := by kernel_rfl
def model_kinds_1.id : FuncId := 75
@[simp] theorem model_kinds_1.okf : okFunc Tryz.prog model_kinds_1.id = true := by kernel_rfl
def model_allDiff.id : FuncId := 76
@[simp] theorem model_allDiff.okf : okFunc Tryz.prog model_allDiff.id = true := by kernel_rfl
def model_element.id : FuncId := 77
@[simp] theorem model_element.okf : okFunc Tryz.prog model_element.id = true := by kernel_rfl
def model_kinds_2.id : FuncId := 78
@[simp] theorem model_kinds_2.okf : okFunc Tryz.prog model_kinds_2.id = true := by kernel_rfl
def model_kinds_3.id : FuncId := 81
@[simp] theorem model_kinds_3.okf : okFunc Tryz.prog model_kinds_3.id = true := by kernel_rfl
def model_reif.id : FuncId := 83
@[simp] theorem model_reif.okf : okFunc Tryz.prog model_reif.id = true := by kernel_rfl
def model_table.id : FuncId := 84
@[simp] theorem model_table.okf : okFunc Tryz.prog model_table.id = true := by kernel_rfl
def model_count.id : FuncId := 85
@[simp] theorem model_count.okf : okFunc Tryz.prog model_count.id = true := by kernel_rfl
def model_wide_1.id : FuncId := 86
@[simp] theorem model_wide_1.okf : okFunc Tryz.prog model_wide_1.id = true := by kernel_rfl
def slices_IndexFunc_Lint_int.id : FuncId := 87
@[simp] theorem slices_IndexFunc_Lint_int.okf : okFunc Tryz.prog slices_IndexFunc_Lint_int.id = true := by kernel_rfl
def model_great_1.id : FuncId := 88
@[simp] theorem model_great_1.okf : okFunc Tryz.prog model_great_1.id = true := by kernel_rfl
def slices_IndexFunc_LLint_Lint.id : FuncId := 89
@[simp] theorem slices_IndexFunc_LLint_Lint.okf : okFunc Tryz.prog slices_IndexFunc_LLint_Lint.id = true := by kernel_rfl
-- hallmark/hallmarklaw13.HallEnds
-- hallmark/hallmarklaw13.HallSafe
-- hallmark/hallmarklaw13.HallLess
def hallmarklaw13_HallLess.ann : List (Nat × RA) := [(0, rk [1, 2, 3, 4]), (1, rk [1, 2, 3, 4, 29]), (2, rk [8]), (3, rk [1, 2, 3, 4, 31]), (4, rk [8]), (5, rp [2, 3, 9] [(2, [1000002])]), (6, rk [2, 3, 9, 36]), (7, rk [8]), (8, rp [2, 3, 9, 10] [(1, [1000000])]), (9, rk [2, 3, 9, 10, 11]), (10, rk [2, 3, 9, 10, 11, 42]), (11, rk [2, 3, 9, 10, 11]), (12, rp [2, 3, 9, 10, 11] [(5, [1000000])]), (13, rp [3, 10, 12, 13] [(2, [1000000])]), (14, rp [10, 12, 13, 14, 15] [(2, [1000000])]), (15, rk [10, 12, 13, 14, 15, 68]), (16, rk [8]), (17, rk [10, 12, 14, 16]), (18, rk [10, 12, 14, 16, 77]), (19, rk [10, 12, 14, 16]), (20, rk [10, 12, 14, 16, 17]), (21, rp [10, 12, 14, 16, 99] [(5, [1000000])]), (22, rk [8]), (23, rk [8])]
def hallmarklaw13_HallLess.b1 : C := .seq (.seq (.reg 0 [zm 0 74 16, zm 1 75 12, zn 2 76 75, za 3 77 .lss 74 76, .g (.keep [10, 12, 14, 16, 77])]) (.cond (.tmp 77) (.skip) (.exit 2))) (.seq (.block 3 (.seq (.reg 1 [zm 0 80 12, zm 1 81 16, zx 2 82 7 80 81, zf 3 83 82 1, zL 4 84 3 83, .o 5 (.alloc (some 17) 0 3 [.a (.int .i64 0), .a (.int .i64 0), .a (.int .i64 0)]), .o 6 (.store [] 3 (.tmp 17) (.tmp 84)), .g (.keep [10, 12, 14, 16, 17])]) (.seq (.reg 0 [zm 0 85 10, zf 1 86 17 1, zl 2 87 1 86, zf 3 88 17 2, zl 4 89 1 88, .o 5 (.callm (some 90) (.func dom_Store_Has.id) [(.tmp 85), (.tmp 87), (.tmp 89)]), zm 6 91 90, ym 7 91 true 92 14, yf 8 91 true 93 17 1, yl 9 91 true 94 1 93, yf 10 91 true 95 17 2, yl 11 91 true 96 1 95, .gd 12 91 true (some 97) (.call (some 97) hallmarklaw13_goes.id [(.tmp 92), (.tmp 94), (.tmp 96)]), yq 13 91 true 98 97, zr 14 99 91 98 false, .g (.keep [10, 12, 14, 16, 99])]) (.cond (.tmp 99) (.seq (.reg 0 [zb 0 8 false, .g (.keep [8])]) (.ret)) (.skip))))) (.reg 0 [zm 0 78 16, zd 1 79 .add 78 1, zm 2 16 79, .g (.keep [10, 12, 14, 16])]))
def hallmarklaw13_HallLess.b0 : C := .seq (.seq (.reg 0 [zm 0 39 11, zm 1 40 2, zn 2 41 40, za 3 42 .lss 39 41, .g (.keep [2, 3, 9, 10, 11, 42])]) (.cond (.tmp 42) (.skip) (.exit 0))) (.seq (.block 1 (.reg 0 [zm 0 45 10, zm 1 46 2, zm 2 47 11, zx 3 48 3 46 47, zL 4 49 3 48, .o 5 (.callm (some 50) (.func dom_Store_Cut.id) [(.tmp 45), (.tmp 49)]), .g (.keep [2, 3, 9, 10, 11])])) (.reg 0 [zm 0 43 11, zd 1 44 .add 43 1, zm 2 11 44, .g (.keep [2, 3, 9, 10, 11])]))
def hallmarklaw13_HallLess.ir : C := .seq (.reg 1 [.o 0 (.box (some 4) 0 4 (.tmp 0)), zb 1 8 false, .g (.keep [1, 2, 3, 4])]) (.seq (.seq (.reg 0 [zL 0 18 4 4, zm 1 19 1, zm 2 20 3, .o 3 (.call (some 21) hallmarklaw13_few.id [(.tmp 18), (.tmp 19), (.tmp 20)]), zq 4 22 21, zm 5 23 22, yL 6 23 false 24 4 4, ym 7 23 false 25 2, ym 8 23 false 26 3, .gd 9 23 false (some 27) (.call (some 27) hallmarklaw13_few.id [(.tmp 24), (.tmp 25), (.tmp 26)]), yq 10 23 false 28 27, zp 11 29 23 true 28, .g (.keep [1, 2, 3, 4, 29])]) (.cond (.tmp 29) (.seq (.reg 0 [zb 0 8 true, .g (.keep [8])]) (.ret)) (.skip))) (.seq (.seq (.reg 0 [.o 0 (.call (some 30) hallmarklaw13_known.id []), zq 1 31 30, .g (.keep [1, 2, 3, 4, 31])]) (.cond (.tmp 31) (.seq (.reg 0 [zb 0 8 false, .g (.keep [8])]) (.ret)) (.skip))) (.seq (.reg 0 [zL 0 32 4 4, zm 1 33 1, .o 2 (.callo (some 34) (.func hallmarklaw13_behind.id) [(.tmp 32), (.tmp 33)]), zm 3 9 34, .g (.keep [2, 3, 9])]) (.seq (.seq (.reg 0 [zm 0 35 9, zz 1 36 0 false 35, .g (.keep [2, 3, 9, 36])]) (.cond (.tmp 36) (.seq (.reg 0 [zb 0 8 false, .g (.keep [8])]) (.ret)) (.skip))) (.seq (.reg 0 [zm 0 37 9, .o 1 (.callm (some 38) (.func dom_Store_Copy.id) [(.tmp 37)]), zm 2 10 38, .g (.keep [2, 3, 9, 10])]) (.seq (.seq (.reg 0 [zk 0 11 0, .g (.keep [2, 3, 9, 10, 11])]) (.block 0 (.loop hallmarklaw13_HallLess.b0))) (.seq (.reg 0 [zm 0 52 3, zm 1 53 9, .o 2 (.callm (some 54) (.func hall_Cuts.id) [(.tmp 52), (.tmp 53)]), zm 3 51 54, ze 4 55 51 0, ze 5 56 51 1, zm 6 12 55, zm 7 13 56, .g (.keep [3, 10, 12, 13])]) (.seq (.reg 0 [zm 0 58 3, zm 1 59 10, .o 2 (.callm (some 60) (.func hall_Cuts.id) [(.tmp 58), (.tmp 59)]), zm 3 57 60, ze 4 61 57 0, ze 5 62 57 1, zm 6 14 61, zm 7 15 62, .g (.keep [10, 12, 13, 14, 15])]) (.seq (.seq (.reg 0 [zm 0 63 13, zq 1 64 63, zm 2 65 64, ym 3 65 false 66 15, yq 4 65 false 67 66, zp 5 68 65 true 67, .g (.keep [10, 12, 13, 14, 15, 68])]) (.cond (.tmp 68) (.seq (.reg 0 [zm 0 69 13, zm 1 70 69, ym 2 70 false 71 15, yq 3 70 false 72 71, zp 4 73 70 true 72, zm 5 8 73, .g (.keep [8])]) (.ret)) (.skip))) (.seq (.seq (.reg 0 [zk 0 16 0, .g (.keep [10, 12, 14, 16])]) (.block 2 (.loop hallmarklaw13_HallLess.b1))) (.seq (.reg 0 [zb 0 8 true, .g (.keep [8])]) (.ret))))))))))))
def hallmarklaw13_HallLess.rs : List Rs := [.sl 8]
theorem hallmarklaw13_HallLess.ok : isFn Tryz.prog hallmarklaw13_HallLess.id 100 hallmarklaw13_HallLess.ann hallmarklaw13_HallLess.ir hallmarklaw13_HallLess.rs := ⟨Tryz.f5, _, Tryz.func5, rfl, rfl, by kernel_rfl, by kernel_rfl⟩
-- hallmark/hallmarklaw13.few
def hallmarklaw13_few.ann : List (Nat × RA) := [(0, rk [1, 2, 3]), (1, rp [1, 2, 3, 7] [(0, [1000000])]), (2, rp [1, 2, 7] [(2, [1000000])]), (3, rp [2, 7] [(3, [1000000])]), (4, rp [6] [(1, [1000000])])]
def hallmarklaw13_few.ir : C := .seq (.reg 1 [.o 0 (.box (some 3) 0 4 (.tmp 0)), zb 1 6 false, .g (.keep [1, 2, 3])]) (.seq (.reg 0 [.o 0 (.callm (some 8) (.func hallmarkroom_Many.id) [(.const (.int .i64 20000))]), zm 1 7 8, .g (.keep [1, 2, 3, 7])]) (.seq (.reg 0 [zm 0 9 7, zL 1 10 4 3, .o 2 (.callm (some 11) (.func hallmarkroom_Count_Model.id) [(.tmp 9), (.tmp 10)]), .g (.keep [1, 2, 7])]) (.seq (.reg 0 [zm 0 12 7, zm 1 13 1, zn 2 14 13, .o 3 (.callm (some 15) (.func hallmarkroom_Count_Add.id) [(.tmp 12), (.tmp 14)]), .g (.keep [2, 7])]) (.seq (.reg 0 [zm 0 16 7, .o 1 (.callm (some 17) (.func hallmarkroom_Count_Ok.id) [(.tmp 16)]), zm 2 18 17, ym 3 18 true 19 2, yn 4 18 true 20 19, yd 5 18 true 21 .leq 20 70, zr 6 22 18 21 false, zm 7 6 22, .g (.keep [6])]) (.ret)))))
def hallmarklaw13_few.rs : List Rs := [.sl 6]
theorem hallmarklaw13_few.ok : isFn Tryz.prog hallmarklaw13_few.id 23 hallmarklaw13_few.ann hallmarklaw13_few.ir hallmarklaw13_few.rs := ⟨Tryz.f6, _, Tryz.func6, rfl, rfl, by kernel_rfl, by kernel_rfl⟩
-- hallmark/hallmarklaw13.known
def hallmarklaw13_known.ann : List (Nat × RA) := [(0, rk []), (1, rp [1] [(4, [1000004]), (6, [1000002])]), (2, rk [1, 16]), (3, rk [0]), (4, rp [1, 2, 3] [(0, [1000004]), (2, [1000000])]), (5, rp [1, 2, 3, 5] [(0, [1000004]), (2, [1000000])]), (6, rp [2, 3, 5, 6, 7] [(0, [1000004]), (2, [1000000])]), (7, rp [2, 55] [(16, [1000004])]), (8, rk [0]), (9, rp [0] [(19, [1000004]), (28, [1000004])])]
def hallmarklaw13_known.ir : C := .seq (.reg 0 [zb 0 0 false, .g (.keep [])]) (.seq (.reg 1 [.o 0 (.lt (some 8) (.build [.a (.string ⟨#[]⟩), .a (.int .i64 0), .a (.int .i64 0)] [(0, 1, (.const (.string { data := #[120] }))), (1, 1, (.const (.int .i64 1))), (2, 1, (.const (.int .i64 2)))])), .o 1 (.lt (some 9) (.build [.a (.string ⟨#[]⟩), .a (.int .i64 0), .a (.int .i64 0)] [(0, 1, (.const (.string { data := #[121] }))), (1, 1, (.const (.int .i64 1))), (2, 1, (.const (.int .i64 2)))])), .o 2 (.lt (some 10) (.build [.a (.string ⟨#[]⟩), .a (.int .i64 0), .a (.int .i64 0)] [(0, 1, (.const (.string { data := #[122] }))), (1, 1, (.const (.int .i64 1))), (2, 1, (.const (.int .i64 4)))])), .o 3 (.lt (some 11) (.build [.a (.string ⟨#[]⟩), .a (.int .i64 0), .a (.int .i64 0)] [(0, 1, (.const (.string { data := #[119] }))), (1, 1, (.const (.int .i64 4))), (2, 1, (.const (.int .i64 4)))])), .o 4 (.bsv (some 12) 3 4 [.a (.string ⟨#[]⟩), .a (.int .i64 0), .a (.int .i64 0)] [(0, (.tmp 8)), (1, (.tmp 9)), (2, (.tmp 10)), (3, (.tmp 11))]), .o 5 (.lt (some 13) (.build [.a (.slice none 0 0), .a (.slice none 0 0), .a (.bool false), .a (.slice none 0 0)] [(0, 1, (.tmp 12))])), .o 6 (.callo (some 14) (.func dom_New.id) [(.tmp 13)]), zm 7 1 14, .g (.keep [1])]) (.seq (.seq (.reg 0 [zm 0 15 1, zz 1 16 0 false 15, .g (.keep [1, 16])]) (.cond (.tmp 16) (.seq (.reg 0 [zb 0 0 false, .g (.keep [0])]) (.ret)) (.skip))) (.seq (.reg 1 [.o 0 (.bsv (some 18) 1 4 [.a (.int .i64 0)] [(0, (.const (.int .i64 0))), (1, (.const (.int .i64 1))), (2, (.const (.int .i64 2))), (3, (.const (.int .i64 3)))]), zm 1 19 1, .o 2 (.callm (some 20) (.func hall_Cuts.id) [(.tmp 18), (.tmp 19)]), zm 3 17 20, ze 4 21 17 0, ze 5 22 17 1, zm 6 2 21, zm 7 3 22, .g (.keep [1, 2, 3])]) (.seq (.reg 1 [.o 0 (.bsv (some 24) 1 3 [.a (.int .i64 0)] [(0, (.const (.int .i64 0))), (1, (.const (.int .i64 1))), (2, (.const (.int .i64 0)))]), zm 1 25 1, .o 2 (.callm (some 26) (.func hall_Cuts.id) [(.tmp 24), (.tmp 25)]), zm 3 23 26, ze 4 27 23 0, ze 5 28 23 1, zm 6 4 27, zm 7 5 28, .g (.keep [1, 2, 3, 5])]) (.seq (.reg 2 [.o 0 (.bsv (some 30) 1 3 [.a (.int .i64 0)] [(0, (.const (.int .i64 0))), (1, (.const (.int .i64 1))), (2, (.const (.int .i64 0)))]), zm 1 31 1, .o 2 (.callm (some 32) (.func hall_Fails.id) [(.tmp 30), (.tmp 31)]), zm 3 29 32, ze 4 33 29 0, ze 5 34 29 1, .o 6 (.alloc (some 6) 1 3 [.a (.int .i64 0), .a (.int .i64 0), .a (.slice none 0 0)]), .o 7 (.store [] 3 (.tmp 6) (.tmp 33)), zm 8 7 34, .g (.keep [2, 3, 5, 6, 7])]) (.seq (.seq (.reg 1 [zm 0 35 3, zq 1 36 35, zm 2 37 36, ym 3 37 false 38 5, zp 4 39 37 true 38, zm 5 40 39, ym 6 40 false 41 7, yq 7 40 false 42 41, zp 8 43 40 true 42, zm 9 44 43, ym 10 44 false 45 2, yn 11 44 false 46 45, yd 12 44 false 47 .neq 46 3, zp 13 48 44 true 47, zm 14 49 48, yL 15 49 false 50 3 6, .gd 16 49 false (some 51) (.bsv (some 51) 1 3 [.a (.int .i64 0)] [(0, (.const (.int .i64 0))), (1, (.const (.int .i64 1))), (2, (.const (.int .i64 0)))]), .gd 17 49 false (some 52) (.lt (some 52) (.build [.a (.int .i64 0), .a (.int .i64 0), .a (.slice none 0 0)] [(0, 1, (.const (.int .i64 1))), (1, 1, (.const (.int .i64 2))), (2, 1, (.tmp 51))])), .gd 18 49 false (some 53) (.call (some 53) hallmarklaw13_sameHall.id [(.tmp 50), (.tmp 52)]), yq 19 49 false 54 53, zp 20 55 49 true 54, .g (.keep [2, 55])]) (.cond (.tmp 55) (.seq (.reg 0 [zb 0 0 false, .g (.keep [0])]) (.ret)) (.skip))) (.seq (.reg 2 [zm 0 56 2, .o 1 (.lt (some 57) (.ixS 7 (.tmp 56) (.const (.int .i64 0)))), zf 2 58 57 1, zL 3 59 3 58, .o 4 (.lt (some 60) (.build [.a (.int .i64 0), .a (.int .i64 0), .a (.int .i64 0)] [(0, 1, (.const (.int .i64 3))), (1, 1, (.const (.int .i64 2))), (2, 1, (.const (.int .i64 1)))])), .o 5 (.lt (some 61) (.eqD false [(0, 0), (1, 0), (2, 0)] (.tmp 59) (.tmp 60))), zm 6 62 61, ym 7 62 true 63 2, .gd 8 62 true (some 64) (.lt (some 64) (.ixS 7 (.tmp 63) (.const (.int .i64 2)))), yf 9 62 true 65 64 1, yL 10 62 true 66 3 65, .gd 11 62 true (some 67) (.lt (some 67) (.build [.a (.int .i64 0), .a (.int .i64 0), .a (.int .i64 0)] [(0, 1, (.const (.int .i64 3))), (1, 1, (.const (.int .i64 2))), (2, 1, (.const (.int .i64 4)))])), .gd 12 62 true (some 68) (.lt (some 68) (.eqD false [(0, 0), (1, 0), (2, 0)] (.tmp 66) (.tmp 67))), zr 13 69 62 68 false, zm 14 70 69, ym 15 70 true 71 2, .gd 16 70 true (some 72) (.lt (some 72) (.ixS 7 (.tmp 71) (.const (.int .i64 1)))), yf 17 70 true 73 72 4, yL 18 70 true 74 3 73, .gd 19 70 true (some 75) (.bsv (some 75) 1 2 [.a (.int .i64 0)] [(0, (.const (.int .i64 0))), (1, (.const (.int .i64 1)))]), .gd 20 70 true (some 76) (.lt (some 76) (.build [.a (.int .i64 0), .a (.int .i64 0), .a (.slice none 0 0)] [(0, 1, (.const (.int .i64 1))), (1, 1, (.const (.int .i64 2))), (2, 1, (.tmp 75))])), .gd 21 70 true (some 77) (.call (some 77) hallmarklaw13_sameHall.id [(.tmp 74), (.tmp 76)]), zr 22 78 70 77 false, zm 23 79 78, ym 24 79 true 80 2, .gd 25 79 true (some 81) (.lt (some 81) (.ixS 7 (.tmp 80) (.const (.int .i64 2)))), yf 26 79 true 82 81 4, yL 27 79 true 83 3 82, .gd 28 79 true (some 84) (.bsv (some 84) 1 1 [.a (.int .i64 0)] [(0, (.const (.int .i64 3)))]), .gd 29 79 true (some 85) (.lt (some 85) (.build [.a (.int .i64 0), .a (.int .i64 0), .a (.slice none 0 0)] [(0, 1, (.const (.int .i64 4))), (1, 1, (.const (.int .i64 4))), (2, 1, (.tmp 84))])), .gd 30 79 true (some 86) (.call (some 86) hallmarklaw13_sameHall.id [(.tmp 83), (.tmp 85)]), zr 31 87 79 86 false, zm 32 0 87, .g (.keep [0])]) (.ret))))))))
def hallmarklaw13_known.rs : List Rs := [.sl 0]
theorem hallmarklaw13_known.ok : isFn Tryz.prog hallmarklaw13_known.id 88 hallmarklaw13_known.ann hallmarklaw13_known.ir hallmarklaw13_known.rs := ⟨Tryz.f7, _, Tryz.func7, rfl, rfl, by kernel_rfl, by kernel_rfl⟩
-- hallmark/dom.New
def dom_New.ann : List (Nat × RA) := [(0, rk [1]), (1, rk [1, 3]), (2, rk [1, 3, 5]), (3, rk [1, 3, 18]), (4, { gs := [(0, [.wk])], keep := some [2] }), (5, { gs := [(0, [.wk])], keep := some [3, 21, 22, 23] }), (6, rk [3, 21, 22, 23, 24]), (7, rk [3, 7, 21, 22, 23]), (8, rk [3, 8, 21, 22, 23]), (9, rk [3, 8, 21, 22, 23, 37, 38]), (10, rk [3, 8, 21, 22, 23, 37, 38, 39]), (11, rk [3, 8, 9, 21, 22, 23, 37, 38]), (12, ro [3, 8, 21, 22, 23, 37, 38] [0, 1, 2, 3, 4, 5, 6, 7, 8, 9, 10, 11]), (13, rk [3, 8, 21, 22, 23, 37, 38]), (14, rq [3, 21, 22, 23] [0, 1, 2, 3, 4, 5, 6, 7, 8, 9, 10] [(6, [1000004])]), (15, rk [3, 21, 22, 23]), (16, rk [2])]
def dom_New.b1 : C := .seq (.reg 0 [za 0 39 .lss 38 37, .g (.keep [3, 8, 21, 22, 23, 37, 38, 39])]) (.seq (.cond (.tmp 39) (.skip) (.exit 2)) (.seq (.block 3 (.seq (.reg 0 [zm 0 40 38, zm 1 9 40, .g (.keep [3, 8, 9, 21, 22, 23, 37, 38])]) (.reg 0 [zm 0 41 9, zd 1 42 .quo 41 32, zf 2 43 8 2, .o 3 (.lt (some 44) (.ixA 2 1 (.tmp 43) (.tmp 42))), zl 4 45 1 44, zm 5 46 9, zd 6 47 .rem 46 32, .o 7 (.lt (some 48) (.bin .shl (.const (.int .u32 1)) (.tmp 47))), za 8 49 .or 45 48, zf 9 50 8 2, .o 10 (.lt (some 51) (.ixA 2 1 (.tmp 50) (.tmp 42))), .o 11 (.store [] 1 (.tmp 51) (.tmp 49)), .g (.keep [3, 8, 21, 22, 23, 37, 38])]))) (.reg 0 [zd 0 52 .add 38 1, zm 1 38 52, .g (.keep [3, 8, 21, 22, 23, 37, 38])])))
def dom_New.b0 : C := .seq (.reg 0 [za 0 24 .lss 23 22, .g (.keep [3, 21, 22, 23, 24])]) (.seq (.cond (.tmp 24) (.skip) (.exit 0)) (.seq (.block 1 (.seq (.reg 1 [zx 0 25 3 21 23, zL 1 26 3 25, .o 2 (.alloc (some 7) 0 3 [.a (.string ⟨#[]⟩), .a (.int .i64 0), .a (.int .i64 0)]), .o 3 (.store [] 3 (.tmp 7) (.tmp 26)), .g (.keep [3, 7, 21, 22, 23])]) (.seq (.reg 1 [zf 0 27 7 1, zl 1 28 1 27, zf 2 29 7 2, zl 3 30 1 29, zf 4 31 7 1, zl 5 32 1 31, za 6 33 .sub 30 32, zd 7 34 .add 33 1, .o 8 (.lt (some 35) (.build [.a (.int .i64 0), .a (.int .i64 0), .a (.int .u32 0), .a (.int .u32 0)] [(0, 1, (.tmp 28)), (1, 1, (.tmp 34))])), .o 9 (.alloc (some 8) 0 4 [.a (.int .i64 0), .a (.int .i64 0), .a (.int .u32 0), .a (.int .u32 0)]), .o 10 (.store [] 4 (.tmp 8) (.tmp 35)), .g (.keep [3, 8, 21, 22, 23])]) (.seq (.seq (.reg 0 [zf 0 36 8 1, zl 1 37 1 36, zk 2 38 0, .g (.keep [3, 8, 21, 22, 23, 37, 38])]) (.block 2 (.loop dom_New.b1))) (.reg 2 [zm 0 53 3, zm 1 54 3, zc 2 55 54, zf 3 56 55 0, zl 4 57 1 56, zL 5 58 4 8, .o 6 (.bsv (some 59) 4 1 [.a (.int .i64 0), .a (.int .i64 0), .a (.int .u32 0), .a (.int .u32 0)] [(0, (.tmp 58))]), .o 7 (.app [] (some 60) 1 4 24 (.tmp 57) (.tmp 59)), zc 8 61 53, zf 9 62 61 0, .o 10 (.store [] 1 (.tmp 62) (.tmp 60)), .g (.keep [3, 21, 22, 23])]))))) (.reg 0 [zd 0 63 .add 23 1, zm 1 23 63, .g (.keep [3, 21, 22, 23])])))
def dom_New.ir : C := .seq (.reg 1 [.o 0 (.box (some 1) 0 4 (.tmp 0)), .o 1 (.lt (some 2) (.mov (.const (.pointer none)))), .g (.keep [1])]) (.seq (.reg 1 [.o 0 (.lt (some 10) (.build [.a (.slice none 0 0), .a (.slice none 0 0)] [])), .o 1 (.box (some 11) 0 2 (.tmp 10)), zm 2 3 11, .g (.keep [1, 3])]) (.seq (.seq (.reg 0 [zL 0 13 4 1, .o 1 (.call (some 14) model_Check.id [(.tmp 13)]), zm 2 12 14, ze 3 15 12 0, ze 4 16 12 1, zm 5 4 15, zm 6 5 16, .g (.keep [1, 3, 5])]) (.seq (.reg 0 [zm 0 17 5, zd 1 18 .neq 17 0, .g (.keep [1, 3, 18])]) (.cond (.tmp 18) (.seq (.reg 0 [.g (.wk), zm 0 19 3, zm 1 2 19, .g (.keep [2])]) (.ret)) (.skip)))) (.seq (.seq (.reg 0 [.g (.wk), zf 0 20 1 0, zl 1 21 1 20, zn 2 22 21, zk 3 23 0, .g (.keep [3, 21, 22, 23])]) (.block 0 (.loop dom_New.b0))) (.seq (.reg 0 [zm 0 64 3, zm 1 2 64, .g (.keep [2])]) (.ret)))))
def dom_New.rs : List Rs := [.sl 2]
theorem dom_New.ok : isFn Tryz.prog dom_New.id 65 dom_New.ann dom_New.ir dom_New.rs := ⟨Tryz.f8, _, Tryz.func8, rfl, rfl, by kernel_rfl, by kernel_rfl⟩
-- hallmark/hallmarklaw13.within
-- (*hallmark/dom.Store).Cut
def dom_Store_Cut.ann : List (Nat × RA) := [(0, rk [0, 3]), (1, rp [0, 3, 13] [(3, [1000000])]), (2, rk [4, 5]), (3, ro [0, 3, 6] [0, 1, 2, 3, 4, 5, 6, 7, 8, 9]), (4, rk [0, 3, 6, 23, 24]), (5, rk [0, 3, 6, 23, 24, 25]), (6, rk [0, 3, 6, 7, 23, 24]), (7, rk [0, 3, 6, 7, 23, 24, 32]), (8, rp [0, 3, 6, 23, 24] [(2, [1000000])]), (9, rk [0, 3, 6, 23, 24]), (10, rk [0, 3, 6, 40]), (11, rk [4, 5]), (12, ro [0, 3, 6, 8] [0, 1, 2, 3, 4, 5, 6, 7, 8, 9, 10, 11, 12]), (13, ro [8] [0, 1, 2, 3, 4, 5, 6, 7, 8]), (14, rk [4, 5])]
def dom_Store_Cut.b0 : C := .seq (.reg 0 [za 0 25 .lss 24 23, .g (.keep [0, 3, 6, 23, 24, 25])]) (.seq (.cond (.tmp 25) (.skip) (.exit 0)) (.seq (.block 1 (.seq (.reg 0 [zm 0 26 24, zm 1 7 26, .g (.keep [0, 3, 6, 7, 23, 24])]) (.seq (.reg 0 [zL 0 27 3 3, zf 1 28 6 0, zl 2 29 1 28, zm 3 30 7, za 4 31 .add 29 30, .o 5 (.call (some 32) dom_goes.id [(.tmp 27), (.tmp 31)]), .g (.keep [0, 3, 6, 7, 23, 24, 32])]) (.cond (.tmp 32) (.reg 0 [zf 0 33 6 2, zm 1 34 7, .o 2 (.callm (some 35) (.func dom_set_drop.id) [(.tmp 33), (.tmp 34)]), .g (.keep [0, 3, 6, 23, 24])]) (.skip))))) (.reg 0 [zd 0 36 .add 24 1, zm 1 24 36, .g (.keep [0, 3, 6, 23, 24])])))
def dom_Store_Cut.ir : C := .seq (.reg 1 [.o 0 (.box (some 3) 0 3 (.tmp 1)), zb 1 4 false, zb 2 5 false, .g (.keep [0, 3])]) (.seq (.seq (.reg 0 [zm 0 9 0, zf 1 10 3 1, zl 2 11 1 10, .o 3 (.callm (some 12) (.func dom_Store_is.id) [(.tmp 9), (.tmp 11)]), zq 4 13 12, .g (.keep [0, 3, 13])]) (.cond (.tmp 13) (.seq (.reg 0 [zb 0 4 false, zb 1 5 true, .g (.keep [4, 5])]) (.ret)) (.skip))) (.seq (.reg 1 [zm 0 14 0, zc 1 15 14, zf 2 16 15 0, zl 3 17 1 16, zf 4 18 3 1, zl 5 19 1 18, zx 6 20 4 17 19, zL 7 21 4 20, .o 8 (.alloc (some 6) 0 4 [.a (.int .i64 0), .a (.int .i64 0), .a (.int .u32 0), .a (.int .u32 0)]), .o 9 (.store [] 4 (.tmp 6) (.tmp 21)), .g (.keep [0, 3, 6])]) (.seq (.seq (.reg 0 [zf 0 22 6 1, zl 1 23 1 22, zk 2 24 0, .g (.keep [0, 3, 6, 23, 24])]) (.block 0 (.loop dom_Store_Cut.b0))) (.seq (.seq (.reg 0 [zf 0 37 6 2, zL 1 38 2 37, .o 2 (.lt (some 39) (.build [.a (.int .u32 0), .a (.int .u32 0)] [])), .o 3 (.lt (some 40) (.eqD false [(0, 0), (1, 0)] (.tmp 38) (.tmp 39))), .g (.keep [0, 3, 6, 40])]) (.cond (.tmp 40) (.seq (.reg 0 [zb 0 4 false, zb 1 5 false, .g (.keep [4, 5])]) (.ret)) (.skip))) (.seq (.reg 0 [zf 0 41 6 2, zL 1 42 2 41, zm 2 43 0, zc 3 44 43, zf 4 45 44 0, zl 5 46 1 45, zf 6 47 3 1, zl 7 48 1 47, zx 8 49 4 46 48, zf 9 50 49 2, zL 10 51 2 50, .o 11 (.lt (some 52) (.eqD true [(0, 0), (1, 0)] (.tmp 42) (.tmp 51))), zm 12 8 52, .g (.keep [0, 3, 6, 8])]) (.seq (.reg 0 [zm 0 53 0, zc 1 54 53, zf 2 55 54 0, zl 3 56 1 55, zf 4 57 3 1, zl 5 58 1 57, zL 6 59 4 6, zx 7 60 4 56 58, .o 8 (.store [] 4 (.tmp 60) (.tmp 59)), .g (.keep [8])]) (.seq (.reg 0 [zm 0 61 8, zm 1 4 61, zb 2 5 true, .g (.keep [4, 5])]) (.ret))))))))
def dom_Store_Cut.rs : List Rs := [.sl 4, .sl 5]
theorem dom_Store_Cut.ok : isFn Tryz.prog dom_Store_Cut.id 62 dom_Store_Cut.ann dom_Store_Cut.ir dom_Store_Cut.rs := ⟨Tryz.f10, _, Tryz.func10, rfl, rfl, by kernel_rfl, by kernel_rfl⟩
-- hallmark/hall.Cuts
def hall_Cuts.ann : List (Nat × RA) := [(0, rk [0, 1]), (1, rp [1, 6] [(2, [1000000])]), (2, rk [1, 6, 7]), (3, { gs := [(0, [.wk])], keep := some [1, 6, 7, 22, 23, 24], aps := [(2, [1000000])] }), (4, rk [1, 6, 7, 22, 23, 24, 25]), (5, rk [1, 6, 7, 9, 22, 23, 24]), (6, rk [1, 6, 7, 9, 10, 22, 23, 24]), (7, rk [1, 6, 7, 9, 10, 22, 23, 24, 31]), (8, rk [4, 5]), (9, rk [1, 6, 7, 9, 22, 23, 24, 37]), (10, rp [1, 6, 7, 22, 23, 24] [(2, [1000004])]), (11, rk [1, 6, 7, 22, 23, 24]), (12, { gs := [(0, [.frz 7])], keep := some [1, 6, 7, 11] }), (13, { gs := [(0, [.wk])], keep := some [1, 6, 7, 11, 50, 51, 52], aps := [(1, [1000000]), (2, [1000000])] }), (14, rk [1, 6, 7, 11, 50, 51, 52, 53]), (15, rk [1, 6, 7, 11, 13, 50, 51, 52]), (16, rp [1, 6, 7, 11, 13, 50, 51, 52, 58, 59, 60] [(2, [1000000])]), (17, rk [1, 6, 7, 11, 13, 50, 51, 52, 58, 59, 60, 61]), (18, rk [1, 6, 7, 11, 13, 15, 50, 51, 52, 58, 59, 60]), (19, rp [1, 6, 7, 11, 13, 15, 16, 50, 51, 52, 58, 59, 60] [(2, [1000001])]), (20, rk [1, 6, 7, 11, 13, 15, 16, 50, 51, 52, 58, 59, 60, 68]), (21, rq [1, 6, 7, 11, 13, 50, 51, 52, 58, 59, 60] [0, 1, 2, 3, 4, 5, 6, 7, 8, 9, 10, 11, 12, 13] [(11, [1000004])]), (22, rk [1, 6, 7, 11, 13, 50, 51, 52, 58, 59, 60]), (23, rk [1, 6, 7, 11, 50, 51, 52]), (24, { gs := [(0, [.frz 11])], keep := some [4, 5] })]
def hall_Cuts.b2 : C := .seq (.reg 0 [za 0 61 .lss 60 59, .g (.keep [1, 6, 7, 11, 13, 50, 51, 52, 58, 59, 60, 61])]) (.seq (.cond (.tmp 61) (.skip) (.exit 5)) (.seq (.block 6 (.seq (.reg 1 [zx 0 62 1 58 60, zl 1 63 1 62, .o 2 (.alloc (some 15) 0 1 [.a (.int .i64 0)]), .o 3 (.store [] 1 (.tmp 15) (.tmp 63)), .g (.keep [1, 6, 7, 11, 13, 15, 50, 51, 52, 58, 59, 60])]) (.seq (.reg 0 [zm 0 64 7, .o 1 (.lt (some 65) (.mkfn (.func hall_Cuts_1.id) [] [(.tmp 15), (.tmp 6), (.tmp 13)])), .o 2 (.callb (some 66) (.func slices_IndexFunc_Lhall_interval_hall_interval.id) [(.tmp 64), (.tmp 65)]), zm 3 16 66, .g (.keep [1, 6, 7, 11, 13, 15, 16, 50, 51, 52, 58, 59, 60])]) (.seq (.reg 0 [zm 0 67 16, zd 1 68 .geq 67 0, .g (.keep [1, 6, 7, 11, 13, 15, 16, 50, 51, 52, 58, 59, 60, 68])]) (.cond (.tmp 68) (.reg 2 [zm 0 69 11, zl 1 70 1 13, zl 2 71 1 15, .o 3 (.lt (some 72) (.build [.a (.int .i64 0), .a (.int .i64 0), .a (.int .i64 0)] [(0, 1, (.const (.int .i64 3))), (1, 1, (.tmp 70)), (2, 1, (.tmp 71))])), zm 4 73 7, zm 5 74 16, zx 6 75 3 73 74, zL 7 76 3 75, zl 8 77 1 6, .o 9 (.call (some 78) hall_interval_hall.id [(.tmp 76), (.tmp 77)]), .o 10 (.lt (some 79) (.build [.a (.int .i64 0), .a (.int .i64 0), .a (.int .i64 0), .a (.int .i64 0), .a (.int .i64 0), .a (.int .i64 0), .a (.slice none 0 0)] [(1, 3, (.tmp 72)), (4, 3, (.tmp 78))])), .o 11 (.bsv (some 80) 7 1 [.a (.int .i64 0), .a (.int .i64 0), .a (.int .i64 0), .a (.int .i64 0), .a (.int .i64 0), .a (.int .i64 0), .a (.slice none 0 0)] [(0, (.tmp 79))]), .o 12 (.app [] (some 81) 1 7 72 (.tmp 69) (.tmp 80)), zm 13 11 81, .g (.keep [1, 6, 7, 11, 13, 50, 51, 52, 58, 59, 60])]) (.skip)))))) (.reg 0 [zd 0 82 .add 60 1, zm 1 60 82, .g (.keep [1, 6, 7, 11, 13, 50, 51, 52, 58, 59, 60])])))
def hall_Cuts.b1 : C := .seq (.reg 0 [za 0 53 .lss 52 51, .g (.keep [1, 6, 7, 11, 50, 51, 52, 53])]) (.seq (.cond (.tmp 53) (.skip) (.exit 3)) (.seq (.block 4 (.seq (.reg 1 [zx 0 54 1 50 52, zl 1 55 1 54, .o 2 (.alloc (some 13) 0 1 [.a (.int .i64 0)]), .o 3 (.store [] 1 (.tmp 13) (.tmp 55)), .g (.keep [1, 6, 7, 11, 13, 50, 51, 52])]) (.seq (.reg 0 [zm 0 56 1, zl 1 57 1 13, .o 2 (.callm (some 58) (.func dom_Store_Values.id) [(.tmp 56), (.tmp 57)]), zn 3 59 58, zk 4 60 0, .g (.keep [1, 6, 7, 11, 13, 50, 51, 52, 58, 59, 60])]) (.block 5 (.loop hall_Cuts.b2))))) (.reg 0 [zd 0 83 .add 52 1, zm 1 52 83, .g (.keep [1, 6, 7, 11, 50, 51, 52])])))
def hall_Cuts.b0 : C := .seq (.reg 0 [za 0 25 .lss 24 23, .g (.keep [1, 6, 7, 22, 23, 24, 25])]) (.seq (.cond (.tmp 25) (.skip) (.exit 0)) (.seq (.block 1 (.seq (.reg 1 [zx 0 26 3 22 24, zL 1 27 3 26, .o 2 (.alloc (some 9) 0 3 [.a (.int .i64 0), .a (.int .i64 0), .a (.slice none 0 0)]), .o 3 (.store [] 3 (.tmp 9) (.tmp 27)), .g (.keep [1, 6, 7, 9, 22, 23, 24])]) (.seq (.reg 0 [zf 0 28 9 2, zl 1 29 1 28, zn 2 30 29, zm 3 10 30, .g (.keep [1, 6, 7, 9, 10, 22, 23, 24])]) (.block 2 (.seq (.reg 0 [zm 0 32 10, zf 1 33 9 0, zL 2 34 2 33, .o 3 (.call (some 35) hall_ends_size.id [(.tmp 34)]), za 4 36 .gtr 32 35, zm 5 31 36, .g (.keep [1, 6, 7, 9, 10, 22, 23, 24, 31])]) (.cond (.tmp 31) (.seq (.reg 0 [.o 0 (.lt (some 4) (.mov (.const (.slice none 0 0)))), zb 1 5 false, .g (.keep [4, 5])]) (.ret)) (.seq (.reg 0 [zm 0 38 10, zf 1 39 9 0, zL 2 40 2 39, .o 3 (.call (some 41) hall_ends_size.id [(.tmp 40)]), za 4 42 .eql 38 41, zm 5 37 42, .g (.keep [1, 6, 7, 9, 22, 23, 24, 37])]) (.cond (.tmp 37) (.reg 2 [zm 0 43 7, zL 1 44 3 9, .o 2 (.bsv (some 45) 3 1 [.a (.int .i64 0), .a (.int .i64 0), .a (.slice none 0 0)] [(0, (.tmp 44))]), .o 3 (.app [] (some 46) 1 3 40 (.tmp 43) (.tmp 45)), zm 4 7 46, .g (.keep [1, 6, 7, 22, 23, 24])]) (.skip))))))))) (.reg 0 [zd 0 47 .add 24 1, zm 1 24 47, .g (.keep [1, 6, 7, 22, 23, 24])])))
def hall_Cuts.ir : C := .seq (.reg 0 [.o 0 (.lt (some 4) (.mov (.const (.slice none 0 0)))), zb 1 5 false, .g (.keep [0, 1])]) (.seq (.reg 1 [zm 0 17 0, zm 1 18 1, .o 2 (.callm (some 19) (.func hall_places.id) [(.tmp 17), (.tmp 18)]), .o 3 (.alloc (some 6) 0 1 [.a (.slice none 0 0)]), .o 4 (.store [] 1 (.tmp 6) (.tmp 19)), .g (.keep [1, 6])]) (.seq (.reg 0 [.o 0 (.lt (some 7) (.mov (.const (.slice none 0 0)))), .g (.keep [1, 6, 7])]) (.seq (.seq (.reg 0 [.g (.wk), zl 0 20 1 6, zm 1 21 1, .o 2 (.callm (some 22) (.func hall_intervals.id) [(.tmp 20), (.tmp 21)]), zn 3 23 22, zk 4 24 0, .g (.keep [1, 6, 7, 22, 23, 24])]) (.block 0 (.loop hall_Cuts.b0))) (.seq (.reg 0 [.g (.frz 7), .o 0 (.lt (some 11) (.mov (.const (.slice none 0 0)))), .g (.keep [1, 6, 7, 11])]) (.seq (.seq (.reg 0 [.g (.wk), zl 0 48 1 6, .o 1 (.callm (some 49) (.func slices_Clone_Lint_int.id) [(.tmp 48)]), .o 2 (.callm (some 50) (.func hall_sorted.id) [(.tmp 49)]), zn 3 51 50, zk 4 52 0, .g (.keep [1, 6, 7, 11, 50, 51, 52])]) (.block 3 (.loop hall_Cuts.b1))) (.seq (.reg 0 [.g (.frz 11), zm 0 84 11, zm 1 4 84, zb 2 5 true, .g (.keep [4, 5])]) (.ret)))))))
def hall_Cuts.rs : List Rs := [.sl 4, .sl 5]
theorem hall_Cuts.ok : isFn Tryz.prog hall_Cuts.id 85 hall_Cuts.ann hall_Cuts.ir hall_Cuts.rs := ⟨Tryz.f11, _, Tryz.func11, rfl, rfl, by kernel_rfl, by kernel_rfl⟩
-- hallmark/hallmarklaw13.different
-- hallmark/hallmarklaw13.behind
def hallmarklaw13_behind.ann : List (Nat × RA) := [(0, rk [1, 2]), (1, rp [1, 5] [(1, [1000002])]), (2, rk [1, 5, 6]), (3, rk [1, 5, 6, 16]), (4, rk [1, 5, 6]), (5, rp [1, 5, 6] [(5, [1000000])]), (6, rk [4])]
def hallmarklaw13_behind.b0 : C := .seq (.seq (.reg 0 [zm 0 9 6, zm 1 10 1, zn 2 11 10, za 3 12 .lss 9 11, zm 4 13 12, ym 5 13 true 14 5, yz 6 13 true 15 0 true 14, zr 7 16 13 15 false, .g (.keep [1, 5, 6, 16])]) (.cond (.tmp 16) (.skip) (.exit 0))) (.seq (.block 1 (.reg 0 [zm 0 19 5, zm 1 20 1, zm 2 21 6, zx 3 22 3 20 21, zL 4 23 3 22, .o 5 (.callm (some 24) (.func dom_Store_Cut.id) [(.tmp 19), (.tmp 23)]), .g (.keep [1, 5, 6])])) (.reg 0 [zm 0 17 6, zd 1 18 .add 17 1, zm 2 6 18, .g (.keep [1, 5, 6])]))
def hallmarklaw13_behind.ir : C := .seq (.reg 1 [.o 0 (.box (some 2) 0 4 (.tmp 0)), .o 1 (.lt (some 4) (.mov (.const (.pointer none)))), .g (.keep [1, 2])]) (.seq (.reg 0 [zL 0 7 4 2, .o 1 (.callo (some 8) (.func dom_New.id) [(.tmp 7)]), zm 2 5 8, .g (.keep [1, 5])]) (.seq (.seq (.reg 0 [zk 0 6 0, .g (.keep [1, 5, 6])]) (.block 0 (.loop hallmarklaw13_behind.b0))) (.seq (.reg 0 [zm 0 25 5, zm 1 4 25, .g (.keep [4])]) (.ret))))
def hallmarklaw13_behind.rs : List Rs := [.sl 4]
theorem hallmarklaw13_behind.ok : isFn Tryz.prog hallmarklaw13_behind.id 26 hallmarklaw13_behind.ann hallmarklaw13_behind.ir hallmarklaw13_behind.rs := ⟨Tryz.f13, _, Tryz.func13, rfl, rfl, by kernel_rfl, by kernel_rfl⟩
-- hallmark/hall.Fails
def hall_Fails.ann : List (Nat × RA) := [(0, rk [0, 1, 4]), (1, rp [1, 4, 6] [(2, [1000000])]), (2, rp [4, 6, 14, 15, 16] [(2, [1000000])]), (3, rk [4, 6, 14, 15, 16, 17]), (4, rk [4, 6, 8, 14, 15, 16]), (5, ro [4, 6, 8, 14, 15, 16, 26] [0, 1, 2, 3, 4, 5, 6]), (6, rk [4, 5]), (7, rk [4, 6, 14, 15, 16]), (8, rk [4, 5])]
def hall_Fails.b0 : C := .seq (.reg 0 [za 0 17 .lss 16 15, .g (.keep [4, 6, 14, 15, 16, 17])]) (.seq (.cond (.tmp 17) (.skip) (.exit 0)) (.seq (.block 1 (.seq (.reg 1 [zx 0 18 3 14 16, zL 1 19 3 18, .o 2 (.alloc (some 8) 0 3 [.a (.int .i64 0), .a (.int .i64 0), .a (.slice none 0 0)]), .o 3 (.store [] 3 (.tmp 8) (.tmp 19)), .g (.keep [4, 6, 8, 14, 15, 16])]) (.seq (.reg 0 [zf 0 20 8 2, zl 1 21 1 20, zn 2 22 21, zf 3 23 8 0, zL 4 24 2 23, .o 5 (.call (some 25) hall_ends_size.id [(.tmp 24)]), za 6 26 .gtr 22 25, .g (.keep [4, 6, 8, 14, 15, 16, 26])]) (.cond (.tmp 26) (.seq (.reg 0 [zL 0 27 3 8, zm 1 28 6, .o 2 (.call (some 29) hall_interval_hall.id [(.tmp 27), (.tmp 28)]), .o 3 (.store [] 3 (.tmp 4) (.tmp 29)), zb 4 5 true, .g (.keep [4, 5])]) (.ret)) (.skip))))) (.reg 0 [zd 0 30 .add 16 1, zm 1 16 30, .g (.keep [4, 6, 14, 15, 16])])))
def hall_Fails.ir : C := .seq (.reg 1 [.o 0 (.alloc (some 4) 0 3 [.a (.int .i64 0), .a (.int .i64 0), .a (.slice none 0 0)]), zb 1 5 false, .g (.keep [0, 1, 4])]) (.seq (.reg 0 [zm 0 9 0, zm 1 10 1, .o 2 (.callm (some 11) (.func hall_places.id) [(.tmp 9), (.tmp 10)]), zm 3 6 11, .g (.keep [1, 4, 6])]) (.seq (.seq (.reg 0 [zm 0 12 6, zm 1 13 1, .o 2 (.callm (some 14) (.func hall_intervals.id) [(.tmp 12), (.tmp 13)]), zn 3 15 14, zk 4 16 0, .g (.keep [4, 6, 14, 15, 16])]) (.block 0 (.loop hall_Fails.b0))) (.seq (.reg 0 [.o 0 (.lt (some 31) (.build [.a (.int .i64 0), .a (.int .i64 0), .a (.slice none 0 0)] [])), .o 1 (.store [] 3 (.tmp 4) (.tmp 31)), zb 2 5 false, .g (.keep [4, 5])]) (.ret))))
def hall_Fails.rs : List Rs := [.ce 4 true 3, .sl 5]
theorem hall_Fails.ok : isFn Tryz.prog hall_Fails.id 32 hall_Fails.ann hall_Fails.ir hall_Fails.rs := ⟨Tryz.f14, _, Tryz.func14, rfl, rfl, by kernel_rfl, by kernel_rfl⟩
-- hallmark/hallmarklaw13.inside
-- (*hallmark/dom.Store).Lo
def dom_Store_Lo.ann : List (Nat × RA) := [(0, rk [0, 1]), (1, rp [0, 1, 8] [(2, [1000000])]), (2, rk [4]), (3, rp [4] [(2, [1000000])])]
def dom_Store_Lo.ir : C := .seq (.reg 0 [zk 0 4 0, .g (.keep [0, 1])]) (.seq (.seq (.reg 0 [zm 0 5 0, zm 1 6 1, .o 2 (.callm (some 7) (.func dom_Store_is.id) [(.tmp 5), (.tmp 6)]), zq 3 8 7, .g (.keep [0, 1, 8])]) (.cond (.tmp 8) (.seq (.reg 0 [zk 0 4 0, .g (.keep [4])]) (.ret)) (.skip))) (.seq (.reg 0 [zm 0 9 0, zm 1 10 1, .o 2 (.callm (some 11) (.func dom_Store_Values.id) [(.tmp 9), (.tmp 10)]), .o 3 (.lt (some 12) (.ixS 1 (.tmp 11) (.const (.int .i64 0)))), zl 4 13 1 12, zm 5 4 13, .g (.keep [4])]) (.ret)))
def dom_Store_Lo.rs : List Rs := [.sl 4]
theorem dom_Store_Lo.ok : isFn Tryz.prog dom_Store_Lo.id 14 dom_Store_Lo.ann dom_Store_Lo.ir dom_Store_Lo.rs := ⟨Tryz.f16, _, Tryz.func16, rfl, rfl, by kernel_rfl, by kernel_rfl⟩
-- (*hallmark/dom.Store).Hi
def dom_Store_Hi.ann : List (Nat × RA) := [(0, rk [0, 1]), (1, rp [0, 1, 9] [(2, [1000000])]), (2, rk [4]), (3, rp [5] [(2, [1000000])]), (4, rk [4])]
def dom_Store_Hi.ir : C := .seq (.reg 0 [zk 0 4 0, .g (.keep [0, 1])]) (.seq (.seq (.reg 0 [zm 0 6 0, zm 1 7 1, .o 2 (.callm (some 8) (.func dom_Store_is.id) [(.tmp 6), (.tmp 7)]), zq 3 9 8, .g (.keep [0, 1, 9])]) (.cond (.tmp 9) (.seq (.reg 0 [zk 0 4 0, .g (.keep [4])]) (.ret)) (.skip))) (.seq (.reg 0 [zm 0 10 0, zm 1 11 1, .o 2 (.callm (some 12) (.func dom_Store_Values.id) [(.tmp 10), (.tmp 11)]), zm 3 5 12, .g (.keep [5])]) (.seq (.reg 0 [zm 0 13 5, zm 1 14 5, zn 2 15 14, zd 3 16 .sub 15 1, zx 4 17 1 13 16, zl 5 18 1 17, zm 6 4 18, .g (.keep [4])]) (.ret))))
def dom_Store_Hi.rs : List Rs := [.sl 4]
theorem dom_Store_Hi.ok : isFn Tryz.prog dom_Store_Hi.id 19 dom_Store_Hi.ann dom_Store_Hi.ir dom_Store_Hi.rs := ⟨Tryz.f17, _, Tryz.func17, rfl, rfl, by kernel_rfl, by kernel_rfl⟩
-- (*hallmark/dom.Store).Has
def dom_Store_Has.ann : List (Nat × RA) := [(0, rk [0, 1, 2]), (1, rp [0, 1, 2, 11] [(2, [1000000])]), (2, rk [6]), (3, rk [2, 7]), (4, rp [6] [(19, [1000000])])]
def dom_Store_Has.ir : C := .seq (.reg 0 [zb 0 6 false, .g (.keep [0, 1, 2])]) (.seq (.seq (.reg 0 [zm 0 8 0, zm 1 9 1, .o 2 (.callm (some 10) (.func dom_Store_is.id) [(.tmp 8), (.tmp 9)]), zq 3 11 10, .g (.keep [0, 1, 2, 11])]) (.cond (.tmp 11) (.seq (.reg 0 [zb 0 6 false, .g (.keep [6])]) (.ret)) (.skip))) (.seq (.reg 1 [zm 0 12 0, zc 1 13 12, zf 2 14 13 0, zl 3 15 1 14, zm 4 16 1, zx 5 17 4 15 16, zL 6 18 4 17, .o 7 (.alloc (some 7) 0 4 [.a (.int .i64 0), .a (.int .i64 0), .a (.int .u32 0), .a (.int .u32 0)]), .o 8 (.store [] 4 (.tmp 7) (.tmp 18)), .g (.keep [2, 7])]) (.seq (.reg 0 [zm 0 19 2, zf 1 20 7 0, zl 2 21 1 20, za 3 22 .geq 19 21, zm 4 23 22, ym 5 23 true 24 2, yf 6 23 true 25 7 0, yl 7 23 true 26 1 25, yf 8 23 true 27 7 1, yl 9 23 true 28 1 27, ya 10 23 true 29 .add 26 28, ya 11 23 true 30 .lss 24 29, zr 12 31 23 30 false, zm 13 32 31, yf 14 32 true 33 7 2, ym 15 32 true 34 2, yf 16 32 true 35 7 0, yl 17 32 true 36 1 35, ya 18 32 true 37 .sub 34 36, .gd 19 32 true (some 38) (.callm (some 38) (.func dom_set_has.id) [(.tmp 33), (.tmp 37)]), zr 20 39 32 38 false, zm 21 6 39, .g (.keep [6])]) (.ret))))
def dom_Store_Has.rs : List Rs := [.sl 6]
theorem dom_Store_Has.ok : isFn Tryz.prog dom_Store_Has.id 40 dom_Store_Has.ann dom_Store_Has.ir dom_Store_Has.rs := ⟨Tryz.f18, _, Tryz.func18, rfl, rfl, by kernel_rfl, by kernel_rfl⟩
-- hallmark/hallmarklaw13.goes
def hallmarklaw13_goes.ann : List (Nat × RA) := [(0, rk [0, 1, 2]), (1, rk [0, 1, 2, 7]), (2, rk [0, 1, 2, 7, 11]), (3, rk [0, 1, 2, 7]), (4, rk [0, 1, 2, 7, 22]), (5, rk [6]), (6, rk [6])]
def hallmarklaw13_goes.b0 : C := .seq (.seq (.reg 0 [zm 0 8 7, zm 1 9 0, zn 2 10 9, za 3 11 .lss 8 10, .g (.keep [0, 1, 2, 7, 11])]) (.cond (.tmp 11) (.skip) (.exit 0))) (.seq (.block 1 (.seq (.reg 0 [zm 0 14 0, zm 1 15 7, zx 2 16 7 14 15, zf 3 17 16 1, zL 4 18 3 17, zm 5 19 1, zm 6 20 2, .o 7 (.lt (some 21) (.build [.a (.int .i64 0), .a (.int .i64 0), .a (.int .i64 0)] [(0, 1, (.const (.int .i64 3))), (1, 1, (.tmp 19)), (2, 1, (.tmp 20))])), .o 8 (.lt (some 22) (.eqD false [(0, 0), (1, 0), (2, 0)] (.tmp 18) (.tmp 21))), .g (.keep [0, 1, 2, 7, 22])]) (.cond (.tmp 22) (.seq (.reg 0 [zb 0 6 true, .g (.keep [6])]) (.ret)) (.skip)))) (.reg 0 [zm 0 12 7, zd 1 13 .add 12 1, zm 2 7 13, .g (.keep [0, 1, 2, 7])]))
def hallmarklaw13_goes.ir : C := .seq (.reg 0 [zb 0 6 false, .g (.keep [0, 1, 2])]) (.seq (.seq (.reg 0 [zk 0 7 0, .g (.keep [0, 1, 2, 7])]) (.block 0 (.loop hallmarklaw13_goes.b0))) (.seq (.reg 0 [zb 0 6 false, .g (.keep [6])]) (.ret)))
def hallmarklaw13_goes.rs : List Rs := [.sl 6]
theorem hallmarklaw13_goes.ok : isFn Tryz.prog hallmarklaw13_goes.id 23 hallmarklaw13_goes.ann hallmarklaw13_goes.ir hallmarklaw13_goes.rs := ⟨Tryz.f19, _, Tryz.func19, rfl, rfl, by kernel_rfl, by kernel_rfl⟩
-- (*hallmark/dom.Store).Copy
def dom_Store_Copy.ann : List (Nat × RA) := [(0, rk [0]), (1, rp [0, 3] [(4, [1000000])]), (2, rk [3, 16, 17, 18]), (3, rk [3, 16, 17, 18, 19]), (4, rk [3, 5, 16, 17, 18]), (5, rq [3, 16, 17, 18] [0, 1, 2, 3, 4, 5, 6, 7, 8, 9, 10, 11] [(6, [1000003, 23, 24, 25])]), (6, rk [3, 16, 17, 18]), (7, rk [2])]
def dom_Store_Copy.b0 : C := .seq (.reg 0 [za 0 19 .lss 18 17, .g (.keep [3, 16, 17, 18, 19])]) (.seq (.cond (.tmp 19) (.skip) (.exit 0)) (.seq (.block 1 (.seq (.reg 0 [zx 0 20 1 16 18, zl 1 21 1 20, zm 2 5 21, .g (.keep [3, 5, 16, 17, 18])]) (.reg 2 [zm 0 22 3, zm 1 23 3, zc 2 24 23, zf 3 25 24 1, zl 4 26 1 25, zm 5 27 5, .o 6 (.calla [23, 24, 25] (some 28) (.func slices_Clone_Ldom_domain_dom_domain.id) [(.tmp 27)]), .o 7 (.bsl (some 29) 0 1 1 [.a (.slice none 0 0)] [(0, (.tmp 28))]), .o 8 (.app [] (some 30) 1 1 24 (.tmp 26) (.tmp 29)), zc 9 31 22, zf 10 32 31 1, .o 11 (.store [] 1 (.tmp 32) (.tmp 30)), .g (.keep [3, 16, 17, 18])]))) (.reg 0 [zd 0 33 .add 18 1, zm 1 18 33, .g (.keep [3, 16, 17, 18])])))
def dom_Store_Copy.ir : C := .seq (.reg 0 [.o 0 (.lt (some 2) (.mov (.const (.pointer none)))), .g (.keep [0])]) (.seq (.reg 1 [zm 0 6 0, zc 1 7 6, zf 2 8 7 0, zl 3 9 1 8, .o 4 (.callm (some 10) (.func slices_Clone_Ldom_domain_dom_domain.id) [(.tmp 9)]), .o 5 (.lt (some 11) (.build [.a (.slice none 0 0), .a (.slice none 0 0)] [(0, 1, (.tmp 10))])), .o 6 (.box (some 12) 0 2 (.tmp 11)), zm 7 3 12, .g (.keep [0, 3])]) (.seq (.seq (.reg 0 [zm 0 13 0, zc 1 14 13, zf 2 15 14 1, zl 3 16 1 15, zn 4 17 16, zk 5 18 0, .g (.keep [3, 16, 17, 18])]) (.block 0 (.loop dom_Store_Copy.b0))) (.seq (.reg 0 [zm 0 34 3, zm 1 2 34, .g (.keep [2])]) (.ret))))
def dom_Store_Copy.rs : List Rs := [.sl 2]
theorem dom_Store_Copy.ok : isFn Tryz.prog dom_Store_Copy.id 35 dom_Store_Copy.ann dom_Store_Copy.ir dom_Store_Copy.rs := ⟨Tryz.f20, _, Tryz.func20, rfl, rfl, by kernel_rfl, by kernel_rfl⟩
-- hallmark/hallmarkroom.Many
def hallmarkroom_Many.ann : List (Nat × RA) := [(0, rk [0]), (1, rk [2])]
def hallmarkroom_Many.ir : C := .seq (.reg 0 [.o 0 (.lt (some 2) (.mov (.const (.pointer none)))), .g (.keep [0])]) (.seq (.reg 1 [zm 0 3 0, .o 1 (.lt (some 4) (.build [.a (.int .i64 0)] [(0, 1, (.tmp 3))])), .o 2 (.box (some 5) 0 1 (.tmp 4)), zm 3 2 5, .g (.keep [2])]) (.ret))
def hallmarkroom_Many.rs : List Rs := [.sl 2]
theorem hallmarkroom_Many.ok : isFn Tryz.prog hallmarkroom_Many.id 6 hallmarkroom_Many.ann hallmarkroom_Many.ir hallmarkroom_Many.rs := ⟨Tryz.f21, _, Tryz.func21, rfl, rfl, by kernel_rfl, by kernel_rfl⟩
-- (*hallmark/hallmarkroom.Count).Model
def hallmarkroom_Count_Model.ann : List (Nat × RA) := [(0, rk [0, 3]), (1, rk [0, 3, 4]), (2, rp [0, 3, 4, 14] [(7, [1000000])]), (3, rk [0, 3, 4]), (4, rp [0, 3, 4] [(7, [1000000])]), (5, rk [0, 3, 5]), (6, rp [0, 3, 5, 33] [(7, [1000000])]), (7, rk [0, 3, 5]), (8, rp [0, 3, 5] [(6, [1000000])]), (9, rp [] [(4, [1000000])])]
def hallmarkroom_Count_Model.b1 : C := .seq (.seq (.reg 0 [zm 0 25 5, zf 1 26 3 1, zl 2 27 1 26, zn 3 28 27, za 4 29 .lss 25 28, zm 5 30 29, ym 6 30 true 31 0, .gd 7 30 true (some 32) (.callm (some 32) (.func hallmarkroom_Count_Ok.id) [(.tmp 31)]), zr 8 33 30 32 false, .g (.keep [0, 3, 5, 33])]) (.cond (.tmp 33) (.skip) (.exit 2))) (.seq (.block 3 (.reg 0 [zm 0 36 0, zf 1 37 3 1, zl 2 38 1 37, zm 3 39 5, zx 4 40 10 38 39, zL 5 41 10 40, .o 6 (.callm (some 42) (.func hallmarkroom_Count_Con.id) [(.tmp 36), (.tmp 41)]), .g (.keep [0, 3, 5])])) (.reg 0 [zm 0 34 5, zd 1 35 .add 34 1, zm 2 5 35, .g (.keep [0, 3, 5])]))
def hallmarkroom_Count_Model.b0 : C := .seq (.seq (.reg 0 [zm 0 6 4, zf 1 7 3 0, zl 2 8 1 7, zn 3 9 8, za 4 10 .lss 6 9, zm 5 11 10, ym 6 11 true 12 0, .gd 7 11 true (some 13) (.callm (some 13) (.func hallmarkroom_Count_Ok.id) [(.tmp 12)]), zr 8 14 11 13 false, .g (.keep [0, 3, 4, 14])]) (.cond (.tmp 14) (.skip) (.exit 0))) (.seq (.block 1 (.reg 0 [zm 0 17 0, zf 1 18 3 0, zl 2 19 1 18, zm 3 20 4, zx 4 21 3 19 20, zf 5 22 21 0, zl 6 23 1 22, .o 7 (.callm (some 24) (.func hallmarkroom_Count_Text.id) [(.tmp 17), (.tmp 23)]), .g (.keep [0, 3, 4])])) (.reg 0 [zm 0 15 4, zd 1 16 .add 15 1, zm 2 4 16, .g (.keep [0, 3, 4])]))
def hallmarkroom_Count_Model.ir : C := .seq (.reg 1 [.o 0 (.box (some 3) 0 4 (.tmp 1)), .g (.keep [0, 3])]) (.seq (.seq (.reg 0 [zk 0 4 0, .g (.keep [0, 3, 4])]) (.block 0 (.loop hallmarkroom_Count_Model.b0))) (.seq (.seq (.reg 0 [zk 0 5 0, .g (.keep [0, 3, 5])]) (.block 2 (.loop hallmarkroom_Count_Model.b1))) (.reg 0 [zm 0 43 0, zf 1 44 3 3, zl 2 45 1 44, zn 3 46 45, .o 4 (.callm (some 47) (.func hallmarkroom_Count_Add.id) [(.tmp 43), (.tmp 46)]), .g (.keep [])])))
def hallmarkroom_Count_Model.rs : List Rs := []
theorem hallmarkroom_Count_Model.ok : isFn Tryz.prog hallmarkroom_Count_Model.id 48 hallmarkroom_Count_Model.ann hallmarkroom_Count_Model.ir hallmarkroom_Count_Model.rs := ⟨Tryz.f22, _, Tryz.func22, rfl, rfl, by kernel_rfl, by kernel_rfl⟩
-- (*hallmark/hallmarkroom.Count).Add
def hallmarkroom_Count_Add.ann : List (Nat × RA) := [(0, rk [0, 1]), (1, rk [0, 1, 9]), (2, rk [0]), (3, rk [4])]
def hallmarkroom_Count_Add.ir : C := .seq (.reg 0 [zb 0 4 false, .g (.keep [0, 1])]) (.seq (.seq (.reg 0 [zm 0 5 0, zc 1 6 5, zf 2 7 6 0, zl 3 8 1 7, zd 4 9 .geq 8 0, .g (.keep [0, 1, 9])]) (.cond (.tmp 9) (.reg 0 [zm 0 10 0, zm 1 11 0, zc 2 12 11, zf 3 13 12 0, zl 4 14 1 13, zm 5 15 1, za 6 16 .sub 14 15, zc 7 17 10, zf 8 18 17 0, .o 9 (.store [] 1 (.tmp 18) (.tmp 16)), .g (.keep [0])]) (.skip))) (.seq (.reg 0 [zm 0 19 0, zc 1 20 19, zf 2 21 20 0, zl 3 22 1 21, zd 4 23 .geq 22 0, zm 5 4 23, .g (.keep [4])]) (.ret)))
def hallmarkroom_Count_Add.rs : List Rs := [.sl 4]
theorem hallmarkroom_Count_Add.ok : isFn Tryz.prog hallmarkroom_Count_Add.id 24 hallmarkroom_Count_Add.ann hallmarkroom_Count_Add.ir hallmarkroom_Count_Add.rs := ⟨Tryz.f23, _, Tryz.func23, rfl, rfl, by kernel_rfl, by kernel_rfl⟩
-- (*hallmark/hallmarkroom.Count).Ok
def hallmarkroom_Count_Ok.ann : List (Nat × RA) := [(0, rk [0]), (1, rk [2])]
def hallmarkroom_Count_Ok.ir : C := .seq (.reg 0 [zb 0 2 false, .g (.keep [0])]) (.seq (.reg 0 [zm 0 3 0, zc 1 4 3, zf 2 5 4 0, zl 3 6 1 5, zd 4 7 .geq 6 0, zm 5 2 7, .g (.keep [2])]) (.ret))
def hallmarkroom_Count_Ok.rs : List Rs := [.sl 2]
theorem hallmarkroom_Count_Ok.ok : isFn Tryz.prog hallmarkroom_Count_Ok.id 8 hallmarkroom_Count_Ok.ann hallmarkroom_Count_Ok.ir hallmarkroom_Count_Ok.rs := ⟨Tryz.f24, _, Tryz.func24, rfl, rfl, by kernel_rfl, by kernel_rfl⟩
-- hallmark/hallmarklaw13.sameHall
def hallmarklaw13_sameHall.ann : List (Nat × RA) := [(0, rk [2, 3]), (1, rk [4])]
def hallmarklaw13_sameHall.ir : C := .seq (.reg 2 [.o 0 (.box (some 2) 0 3 (.tmp 0)), .o 1 (.box (some 3) 1 3 (.tmp 1)), zb 2 4 false, .g (.keep [2, 3])]) (.seq (.reg 0 [zf 0 5 2 0, zl 1 6 1 5, zf 2 7 3 0, zl 3 8 1 7, za 4 9 .eql 6 8, zm 5 10 9, yf 6 10 true 11 2 1, yl 7 10 true 12 1 11, yf 8 10 true 13 3 1, yl 9 10 true 14 1 13, ya 10 10 true 15 .eql 12 14, zr 11 16 10 15 false, zm 12 17 16, yf 13 17 true 18 2 2, yl 14 17 true 19 1 18, yf 15 17 true 20 3 2, yl 16 17 true 21 1 20, .gd 17 17 true (some 22) (.call (some 22) hallmarklaw13_sameInts.id [(.tmp 19), (.tmp 21)]), zr 18 23 17 22 false, zm 19 4 23, .g (.keep [4])]) (.ret))
def hallmarklaw13_sameHall.rs : List Rs := [.sl 4]
theorem hallmarklaw13_sameHall.ok : isFn Tryz.prog hallmarklaw13_sameHall.id 24 hallmarklaw13_sameHall.ann hallmarklaw13_sameHall.ir hallmarklaw13_sameHall.rs := ⟨Tryz.f25, _, Tryz.func25, rfl, rfl, by kernel_rfl, by kernel_rfl⟩
-- hallmark/model.Check
def model_Check.ann : List (Nat × RA) := [(0, rk [1]), (1, rk [1, 19]), (2, rk [2, 3]), (3, rk [1, 22, 23]), (4, rk [1, 22, 23, 24]), (5, rk [1, 4, 22, 23]), (6, rk [1, 4, 5, 22, 23]), (7, rk [1, 4, 5, 22, 23, 31]), (8, rk [2, 3]), (9, rk [1, 22, 23]), (10, rk [1, 38]), (11, rk [2, 3]), (12, rk [1, 43, 44, 45]), (13, rk [1, 43, 44, 45, 46]), (14, rk [1, 6, 7, 43, 44, 45]), (15, rk [1, 6, 8, 43, 44, 45]), (16, rk [1, 6, 8, 43, 44, 45, 56]), (17, rk [2, 3]), (18, rk [1, 43, 44, 45]), (19, rk [1, 9]), (20, rk [1, 9, 67]), (21, rk [2, 3]), (22, rk [2, 3])]
def model_Check.b1 : C := .seq (.reg 0 [za 0 46 .lss 45 44, .g (.keep [1, 43, 44, 45, 46])]) (.seq (.cond (.tmp 46) (.skip) (.exit 2)) (.seq (.block 3 (.seq (.reg 1 [zm 0 47 45, zx 1 48 10 43 45, zL 2 49 10 48, .o 3 (.alloc (some 7) 0 10 [.a (.int .i64 0), .a (.int .i64 0), .a (.slice none 0 0), .a (.int .i64 0), .a (.int .i64 0), .a (.int .i64 0), .a (.int .i64 0), .a (.slice none 0 0), .a (.slice none 0 0), .a (.slice none 0 0)]), zm 4 6 47, .o 5 (.store [] 10 (.tmp 7) (.tmp 49)), .g (.keep [1, 6, 7, 43, 44, 45])]) (.seq (.reg 0 [zL 0 50 10 7, zf 1 51 1 0, zl 2 52 1 51, zn 3 53 52, .o 4 (.call (some 54) model_con.id [(.tmp 50), (.tmp 53)]), zm 5 8 54, .g (.keep [1, 6, 8, 43, 44, 45])]) (.seq (.reg 0 [zm 0 55 8, zd 1 56 .neq 55 0, .g (.keep [1, 6, 8, 43, 44, 45, 56])]) (.cond (.tmp 56) (.seq (.reg 0 [zf 0 57 1 0, zl 1 58 1 57, zn 2 59 58, zm 3 60 6, za 4 61 .add 59 60, zm 5 62 8, zm 6 2 61, zm 7 3 62, .g (.keep [2, 3])]) (.ret)) (.skip)))))) (.reg 0 [zd 0 63 .add 45 1, zm 1 45 63, .g (.keep [1, 43, 44, 45])])))
def model_Check.b0 : C := .seq (.reg 0 [za 0 24 .lss 23 22, .g (.keep [1, 22, 23, 24])]) (.seq (.cond (.tmp 24) (.skip) (.exit 0)) (.seq (.block 1 (.seq (.reg 0 [zm 0 25 23, zm 1 4 25, .g (.keep [1, 4, 22, 23])]) (.seq (.reg 0 [zf 0 26 1 0, zl 1 27 1 26, zm 2 28 4, .o 3 (.call (some 29) model_variable.id [(.tmp 27), (.tmp 28)]), zm 4 5 29, .g (.keep [1, 4, 5, 22, 23])]) (.seq (.reg 0 [zm 0 30 5, zd 1 31 .neq 30 0, .g (.keep [1, 4, 5, 22, 23, 31])]) (.cond (.tmp 31) (.seq (.reg 0 [zm 0 32 4, zm 1 33 5, zm 2 2 32, zm 3 3 33, .g (.keep [2, 3])]) (.ret)) (.skip)))))) (.reg 0 [zd 0 34 .add 23 1, zm 1 23 34, .g (.keep [1, 22, 23])])))
def model_Check.ir : C := .seq (.reg 1 [.o 0 (.box (some 1) 0 4 (.tmp 0)), zk 1 2 0, zk 2 3 0, .g (.keep [1])]) (.seq (.seq (.reg 0 [zf 0 10 1 0, zl 1 11 1 10, zn 2 12 11, zd 3 13 .eql 12 0, zm 4 14 13, yf 5 14 false 15 1 0, yl 6 14 false 16 1 15, yn 7 14 false 17 16, yd 8 14 false 18 .gtr 17 32, zp 9 19 14 true 18, .g (.keep [1, 19])]) (.cond (.tmp 19) (.seq (.reg 0 [zk 0 2 0, zk 1 3 40, .g (.keep [2, 3])]) (.ret)) (.skip))) (.seq (.seq (.reg 0 [zf 0 20 1 0, zl 1 21 1 20, zn 2 22 21, zk 3 23 0, .g (.keep [1, 22, 23])]) (.block 0 (.loop model_Check.b0))) (.seq (.seq (.reg 0 [zf 0 35 1 1, zl 1 36 1 35, zn 2 37 36, zd 3 38 .gtr 37 64, .g (.keep [1, 38])]) (.cond (.tmp 38) (.seq (.reg 0 [zf 0 39 1 0, zl 1 40 1 39, zn 2 41 40, zm 3 2 41, zk 4 3 49, .g (.keep [2, 3])]) (.ret)) (.skip))) (.seq (.seq (.reg 0 [zf 0 42 1 1, zl 1 43 1 42, zn 2 44 43, zk 3 45 0, .g (.keep [1, 43, 44, 45])]) (.block 2 (.loop model_Check.b1))) (.seq (.seq (.reg 0 [zL 0 64 4 1, .o 1 (.call (some 65) model_goal.id [(.tmp 64)]), zm 2 9 65, .g (.keep [1, 9])]) (.seq (.reg 0 [zm 0 66 9, zd 1 67 .neq 66 0, .g (.keep [1, 9, 67])]) (.cond (.tmp 67) (.seq (.reg 0 [zf 0 68 1 0, zl 1 69 1 68, zn 2 70 69, zf 3 71 1 1, zl 4 72 1 71, zn 5 73 72, za 6 74 .add 70 73, zm 7 75 9, zm 8 2 74, zm 9 3 75, .g (.keep [2, 3])]) (.ret)) (.skip)))) (.seq (.reg 0 [zk 0 2 0, zk 1 3 0, .g (.keep [2, 3])]) (.ret)))))))
def model_Check.rs : List Rs := [.sl 2, .sl 3]
theorem model_Check.ok : isFn Tryz.prog model_Check.id 76 model_Check.ann model_Check.ir model_Check.rs := ⟨Tryz.f26, _, Tryz.func26, rfl, rfl, by kernel_rfl, by kernel_rfl⟩
-- (*hallmark/dom.Store).Vars
def dom_Store_Vars.ann : List (Nat × RA) := [(0, rk [0]), (1, rk [2])]
def dom_Store_Vars.ir : C := .seq (.reg 0 [zk 0 2 0, .g (.keep [0])]) (.seq (.reg 0 [zm 0 3 0, zc 1 4 3, zf 2 5 4 0, zl 3 6 1 5, zn 4 7 6, zm 5 2 7, .g (.keep [2])]) (.ret))
def dom_Store_Vars.rs : List Rs := [.sl 2]
theorem dom_Store_Vars.ok : isFn Tryz.prog dom_Store_Vars.id 8 dom_Store_Vars.ann dom_Store_Vars.ir dom_Store_Vars.rs := ⟨Tryz.f27, _, Tryz.func27, rfl, rfl, by kernel_rfl, by kernel_rfl⟩
-- (*hallmark/dom.Store).Values
def dom_Store_Values.ann : List (Nat × RA) := [(0, rk [0, 1]), (1, rp [0, 1, 11] [(2, [1000000])]), (2, rk [4]), (3, rk [0, 1, 5]), (4, rk [5, 6]), (5, rk [5, 6, 20, 21]), (6, rk [5, 6, 20, 21, 22]), (7, rk [5, 6, 7, 20, 21]), (8, rp [5, 6, 7, 20, 21, 26] [(2, [1000000])]), (9, rp [5, 6, 20, 21] [(5, [1000004])]), (10, rk [5, 6, 20, 21]), (11, { gs := [(0, [.frz 5, .nilv 5 1])], keep := some [4] })]
def dom_Store_Values.b0 : C := .seq (.reg 0 [za 0 22 .lss 21 20, .g (.keep [5, 6, 20, 21, 22])]) (.seq (.cond (.tmp 22) (.skip) (.exit 0)) (.seq (.block 1 (.seq (.reg 0 [zm 0 23 21, zm 1 7 23, .g (.keep [5, 6, 7, 20, 21])]) (.seq (.reg 0 [zf 0 24 6 2, zm 1 25 7, .o 2 (.callm (some 26) (.func dom_set_has.id) [(.tmp 24), (.tmp 25)]), .g (.keep [5, 6, 7, 20, 21, 26])]) (.cond (.tmp 26) (.reg 2 [zm 0 27 5, zf 1 28 6 0, zl 2 29 1 28, zm 3 30 7, za 4 31 .add 29 30, .o 5 (.bsv (some 32) 1 1 [.a (.int .i64 0)] [(0, (.tmp 31))]), .o 6 (.app [] (some 33) 1 1 8 (.tmp 27) (.tmp 32)), zm 7 5 33, .g (.keep [5, 6, 20, 21])]) (.skip))))) (.reg 0 [zd 0 34 .add 21 1, zm 1 21 34, .g (.keep [5, 6, 20, 21])])))
def dom_Store_Values.ir : C := .seq (.reg 0 [.o 0 (.lt (some 4) (.mov (.const (.slice none 0 0)))), .g (.keep [0, 1])]) (.seq (.seq (.reg 0 [zm 0 8 0, zm 1 9 1, .o 2 (.callm (some 10) (.func dom_Store_is.id) [(.tmp 8), (.tmp 9)]), zq 3 11 10, .g (.keep [0, 1, 11])]) (.cond (.tmp 11) (.seq (.reg 0 [.o 0 (.lt (some 4) (.mov (.const (.slice none 0 0)))), .g (.keep [4])]) (.ret)) (.skip))) (.seq (.reg 0 [.o 0 (.lt (some 5) (.mov (.const (.slice none 0 0)))), .g (.keep [0, 1, 5])]) (.seq (.reg 1 [zm 0 12 0, zc 1 13 12, zf 2 14 13 0, zl 3 15 1 14, zm 4 16 1, zx 5 17 4 15 16, zL 6 18 4 17, .o 7 (.alloc (some 6) 0 4 [.a (.int .i64 0), .a (.int .i64 0), .a (.int .u32 0), .a (.int .u32 0)]), .o 8 (.store [] 4 (.tmp 6) (.tmp 18)), .g (.keep [5, 6])]) (.seq (.seq (.reg 0 [zf 0 19 6 1, zl 1 20 1 19, zk 2 21 0, .g (.keep [5, 6, 20, 21])]) (.block 0 (.loop dom_Store_Values.b0))) (.seq (.reg 0 [.g (.frz 5), .g (.nilv 5 1), zm 0 35 5, zm 1 4 35, .g (.keep [4])]) (.ret))))))
def dom_Store_Values.rs : List Rs := [.sl 4]
theorem dom_Store_Values.ok : isFn Tryz.prog dom_Store_Values.id 36 dom_Store_Values.ann dom_Store_Values.ir dom_Store_Values.rs := ⟨Tryz.f28, _, Tryz.func28, rfl, rfl, by kernel_rfl, by kernel_rfl⟩
-- hallmark/hallmarklaw13.place
-- (*hallmark/dom.Store).is
def dom_Store_is.ann : List (Nat × RA) := [(0, rk [0, 1]), (1, rk [4])]
def dom_Store_is.ir : C := .seq (.reg 0 [zb 0 4 false, .g (.keep [0, 1])]) (.seq (.reg 0 [zm 0 5 1, zd 1 6 .geq 5 0, zm 2 7 6, ym 3 7 true 8 1, ym 4 7 true 9 0, yc 5 7 true 10 9, yf 6 7 true 11 10 0, yl 7 7 true 12 1 11, yn 8 7 true 13 12, ya 9 7 true 14 .lss 8 13, zr 10 15 7 14 false, zm 11 4 15, .g (.keep [4])]) (.ret))
def dom_Store_is.rs : List Rs := [.sl 4]
theorem dom_Store_is.ok : isFn Tryz.prog dom_Store_is.id 16 dom_Store_is.ann dom_Store_is.ir dom_Store_is.rs := ⟨Tryz.f30, _, Tryz.func30, rfl, rfl, by kernel_rfl, by kernel_rfl⟩
-- hallmark/dom.goes
def dom_goes.ann : List (Nat × RA) := [(0, rk [1, 2]), (1, rk [1, 2, 6]), (2, rk [1, 2, 6, 7]), (3, rk [4]), (4, rk [1, 2, 13]), (5, rk [4]), (6, rk [4])]
def dom_goes.ir : C := .seq (.reg 1 [.o 0 (.box (some 2) 0 3 (.tmp 0)), zb 1 4 false, .g (.keep [1, 2])]) (.seq (.seq (.reg 0 [zf 0 5 2 0, zl 1 6 1 5, .g (.keep [1, 2, 6])]) (.block 0 (.seq (.reg 0 [zd 0 8 .eql 6 1, zm 1 7 8, .g (.keep [1, 2, 6, 7])]) (.cond (.tmp 7) (.seq (.reg 0 [zm 0 9 1, zf 1 10 2 2, zl 2 11 1 10, za 3 12 .lss 9 11, zm 4 4 12, .g (.keep [4])]) (.ret)) (.seq (.reg 0 [zd 0 14 .eql 6 2, zm 1 13 14, .g (.keep [1, 2, 13])]) (.cond (.tmp 13) (.seq (.reg 0 [zm 0 15 1, zf 1 16 2 2, zl 2 17 1 16, za 3 18 .gtr 15 17, zm 4 4 18, .g (.keep [4])]) (.ret)) (.skip))))))) (.seq (.reg 0 [zf 0 19 2 0, zl 1 20 1 19, zd 2 21 .eql 20 3, zm 3 22 21, ym 4 22 true 23 1, yf 5 22 true 24 2 2, yl 6 22 true 25 1 24, ya 7 22 true 26 .eql 23 25, zr 8 27 22 26 false, zm 9 4 27, .g (.keep [4])]) (.ret)))
def dom_goes.rs : List Rs := [.sl 4]
theorem dom_goes.ok : isFn Tryz.prog dom_goes.id 28 dom_goes.ann dom_goes.ir dom_goes.rs := ⟨Tryz.f31, _, Tryz.func31, rfl, rfl, by kernel_rfl, by kernel_rfl⟩
-- (*hallmark/dom.set).drop
def dom_set_drop.ann : List (Nat × RA) := [(0, ro [] [0, 1, 2, 3, 4, 5, 6, 7, 8, 9, 10, 11, 12])]
def dom_set_drop.ir : C := .reg 0 [zm 0 4 0, zm 1 5 1, zd 2 6 .quo 5 32, zc 3 7 4, .o 4 (.lt (some 8) (.ixA 2 1 (.tmp 7) (.tmp 6))), zl 5 9 1 8, zm 6 10 1, zd 7 11 .rem 10 32, .o 8 (.lt (some 12) (.bin .shl (.const (.int .u32 1)) (.tmp 11))), za 9 13 .andNot 9 12, zc 10 14 4, .o 11 (.lt (some 15) (.ixA 2 1 (.tmp 14) (.tmp 6))), .o 12 (.store [] 1 (.tmp 15) (.tmp 13)), .g (.keep [])]
def dom_set_drop.rs : List Rs := []
theorem dom_set_drop.ok : isFn Tryz.prog dom_set_drop.id 16 dom_set_drop.ann dom_set_drop.ir dom_set_drop.rs := ⟨Tryz.f32, _, Tryz.func32, rfl, rfl, by kernel_rfl, by kernel_rfl⟩
-- hallmark/hall.places
def hall_places.ann : List (Nat × RA) := [(0, rk [0, 1]), (1, rk [0, 1, 5]), (2, rk [1, 5, 8, 9, 10]), (3, rk [1, 5, 8, 9, 10, 11]), (4, rk [1, 5, 7, 8, 9, 10]), (5, rp [1, 5, 7, 8, 9, 10, 21] [(5, [1000000])]), (6, rp [1, 5, 8, 9, 10] [(2, [1000004])]), (7, rk [1, 5, 8, 9, 10]), (8, { gs := [(0, [.frz 5, .nilv 5 1])], keep := some [4] })]
def hall_places.b0 : C := .seq (.reg 0 [za 0 11 .lss 10 9, .g (.keep [1, 5, 8, 9, 10, 11])]) (.seq (.cond (.tmp 11) (.skip) (.exit 0)) (.seq (.block 1 (.seq (.reg 0 [zx 0 12 1 8 10, zl 1 13 1 12, zm 2 7 13, .g (.keep [1, 5, 7, 8, 9, 10])]) (.seq (.reg 0 [zm 0 14 7, zd 1 15 .geq 14 0, zm 2 16 15, ym 3 16 true 17 7, ym 4 16 true 18 1, .gd 5 16 true (some 19) (.callm (some 19) (.func dom_Store_Vars.id) [(.tmp 18)]), ya 6 16 true 20 .lss 17 19, zr 7 21 16 20 false, .g (.keep [1, 5, 7, 8, 9, 10, 21])]) (.cond (.tmp 21) (.reg 2 [zm 0 22 5, zm 1 23 7, .o 2 (.bsv (some 24) 1 1 [.a (.int .i64 0)] [(0, (.tmp 23))]), .o 3 (.app [] (some 25) 1 1 8 (.tmp 22) (.tmp 24)), zm 4 5 25, .g (.keep [1, 5, 8, 9, 10])]) (.skip))))) (.reg 0 [zd 0 26 .add 10 1, zm 1 10 26, .g (.keep [1, 5, 8, 9, 10])])))
def hall_places.ir : C := .seq (.reg 0 [.o 0 (.lt (some 4) (.mov (.const (.slice none 0 0)))), .g (.keep [0, 1])]) (.seq (.reg 0 [.o 0 (.lt (some 5) (.mov (.const (.slice none 0 0)))), .g (.keep [0, 1, 5])]) (.seq (.seq (.reg 0 [zm 0 8 0, zn 1 9 8, zk 2 10 0, .g (.keep [1, 5, 8, 9, 10])]) (.block 0 (.loop hall_places.b0))) (.seq (.reg 0 [.g (.frz 5), .g (.nilv 5 1), zm 0 27 5, zm 1 4 27, .g (.keep [4])]) (.ret))))
def hall_places.rs : List Rs := [.sl 4]
theorem hall_places.ok : isFn Tryz.prog hall_places.id 28 hall_places.ann hall_places.ir hall_places.rs := ⟨Tryz.f33, _, Tryz.func33, rfl, rfl, by kernel_rfl, by kernel_rfl⟩
-- hallmark/hall.intervals
def hall_intervals.ann : List (Nat × RA) := [(0, rk [0, 1]), (1, rk [0, 1, 5, 6]), (2, rk [0, 1, 5, 6, 15, 16, 17]), (3, rk [0, 1, 5, 6, 15, 16, 17, 18]), (4, rk [0, 1, 5, 6, 8, 15, 16, 17]), (5, rp [0, 1, 5, 6, 15, 16, 17] [(3, [1000000]), (4, [1000004]), (9, [1000000]), (10, [1000004])]), (6, rk [0, 1, 5, 6, 15, 16, 17]), (7, rk [0, 1, 5, 6, 9]), (8, rp [0, 1, 6, 9, 35, 36, 37] [(1, [1000000])]), (9, rk [0, 1, 6, 9, 35, 36, 37, 38]), (10, rk [0, 1, 6, 9, 11, 35, 36, 37]), (11, rp [0, 1, 6, 9, 11, 35, 36, 37, 42, 43, 44] [(1, [1000000])]), (12, rk [0, 1, 6, 9, 11, 35, 36, 37, 42, 43, 44, 45]), (13, rk [0, 1, 6, 9, 11, 13, 35, 36, 37, 42, 43, 44]), (14, rk [0, 1, 6, 9, 11, 13, 35, 36, 37, 42, 43, 44, 50]), (15, rk [0, 1, 6, 9, 11, 14, 35, 36, 37, 42, 43, 44]), (16, rq [0, 1, 6, 9, 11, 35, 36, 37, 42, 43, 44] [0, 1, 2, 3, 4, 5, 6, 7, 8, 9] [(5, [1000003, 14]), (7, [1000004])]), (17, rk [0, 1, 6, 9, 11, 35, 36, 37, 42, 43, 44]), (18, rk [0, 1, 6, 9, 35, 36, 37]), (19, { gs := [(0, [.frz 9, .nilv 9 3])], keep := some [4] })]
def hall_intervals.b2 : C := .seq (.reg 0 [za 0 45 .lss 44 43, .g (.keep [0, 1, 6, 9, 11, 35, 36, 37, 42, 43, 44, 45])]) (.seq (.cond (.tmp 45) (.skip) (.exit 4)) (.seq (.block 5 (.seq (.reg 0 [zx 0 46 1 42 44, zl 1 47 1 46, zm 2 13 47, .g (.keep [0, 1, 6, 9, 11, 13, 35, 36, 37, 42, 43, 44])]) (.seq (.reg 0 [zm 0 48 11, zm 1 49 13, za 2 50 .leq 48 49, .g (.keep [0, 1, 6, 9, 11, 13, 35, 36, 37, 42, 43, 44, 50])]) (.cond (.tmp 50) (.seq (.reg 1 [zm 0 51 11, zm 1 52 13, .o 2 (.lt (some 53) (.build [.a (.int .i64 0), .a (.int .i64 0)] [(0, 1, (.tmp 51)), (1, 1, (.tmp 52))])), .o 3 (.alloc (some 14) 0 2 [.a (.int .i64 0), .a (.int .i64 0)]), .o 4 (.store [] 2 (.tmp 14) (.tmp 53)), .g (.keep [0, 1, 6, 9, 11, 14, 35, 36, 37, 42, 43, 44])]) (.reg 2 [zm 0 54 9, zL 1 55 2 14, zm 2 56 0, zm 3 57 1, zL 4 58 2 14, .o 5 (.calla [14] (some 59) (.func hall_inside.id) [(.tmp 56), (.tmp 57), (.tmp 58)]), .o 6 (.lt (some 60) (.build [.a (.int .i64 0), .a (.int .i64 0), .a (.slice none 0 0)] [(0, 2, (.tmp 55)), (2, 1, (.tmp 59))])), .o 7 (.bsv (some 61) 3 1 [.a (.int .i64 0), .a (.int .i64 0), .a (.slice none 0 0)] [(0, (.tmp 60))]), .o 8 (.app [] (some 62) 1 3 40 (.tmp 54) (.tmp 61)), zm 9 9 62, .g (.keep [0, 1, 6, 9, 11, 35, 36, 37, 42, 43, 44])])) (.skip))))) (.reg 0 [zd 0 63 .add 44 1, zm 1 44 63, .g (.keep [0, 1, 6, 9, 11, 35, 36, 37, 42, 43, 44])])))
def hall_intervals.b1 : C := .seq (.reg 0 [za 0 38 .lss 37 36, .g (.keep [0, 1, 6, 9, 35, 36, 37, 38])]) (.seq (.cond (.tmp 38) (.skip) (.exit 2)) (.seq (.block 3 (.seq (.reg 0 [zx 0 39 1 35 37, zl 1 40 1 39, zm 2 11 40, .g (.keep [0, 1, 6, 9, 11, 35, 36, 37])]) (.seq (.reg 0 [zm 0 41 6, .o 1 (.callm (some 42) (.func hall_sorted.id) [(.tmp 41)]), zn 2 43 42, zk 3 44 0, .g (.keep [0, 1, 6, 9, 11, 35, 36, 37, 42, 43, 44])]) (.block 4 (.loop hall_intervals.b2))))) (.reg 0 [zd 0 64 .add 37 1, zm 1 37 64, .g (.keep [0, 1, 6, 9, 35, 36, 37])])))
def hall_intervals.b0 : C := .seq (.reg 0 [za 0 18 .lss 17 16, .g (.keep [0, 1, 5, 6, 15, 16, 17, 18])]) (.seq (.cond (.tmp 18) (.skip) (.exit 0)) (.seq (.block 1 (.seq (.reg 0 [zx 0 19 1 15 17, zl 1 20 1 19, zm 2 8 20, .g (.keep [0, 1, 5, 6, 8, 15, 16, 17])]) (.reg 4 [zm 0 21 5, zm 1 22 1, zm 2 23 8, .o 3 (.callm (some 24) (.func dom_Store_Lo.id) [(.tmp 22), (.tmp 23)]), .o 4 (.bsv (some 25) 1 1 [.a (.int .i64 0)] [(0, (.tmp 24))]), .o 5 (.app [] (some 26) 1 1 8 (.tmp 21) (.tmp 25)), zm 6 27 6, zm 7 28 1, zm 8 29 8, .o 9 (.callm (some 30) (.func dom_Store_Hi.id) [(.tmp 28), (.tmp 29)]), .o 10 (.bsv (some 31) 1 1 [.a (.int .i64 0)] [(0, (.tmp 30))]), .o 11 (.app [] (some 32) 3 1 8 (.tmp 27) (.tmp 31)), zm 12 5 26, zm 13 6 32, .g (.keep [0, 1, 5, 6, 15, 16, 17])]))) (.reg 0 [zd 0 33 .add 17 1, zm 1 17 33, .g (.keep [0, 1, 5, 6, 15, 16, 17])])))
def hall_intervals.ir : C := .seq (.reg 0 [.o 0 (.lt (some 4) (.mov (.const (.slice none 0 0)))), .g (.keep [0, 1])]) (.seq (.reg 0 [.o 0 (.lt (some 5) (.mov (.const (.slice none 0 0)))), .o 1 (.lt (some 6) (.mov (.const (.slice none 0 0)))), .g (.keep [0, 1, 5, 6])]) (.seq (.seq (.reg 0 [zm 0 15 0, zn 1 16 15, zk 2 17 0, .g (.keep [0, 1, 5, 6, 15, 16, 17])]) (.block 0 (.loop hall_intervals.b0))) (.seq (.reg 0 [.o 0 (.lt (some 9) (.mov (.const (.slice none 0 0)))), .g (.keep [0, 1, 5, 6, 9])]) (.seq (.seq (.reg 0 [zm 0 34 5, .o 1 (.callm (some 35) (.func hall_sorted.id) [(.tmp 34)]), zn 2 36 35, zk 3 37 0, .g (.keep [0, 1, 6, 9, 35, 36, 37])]) (.block 2 (.loop hall_intervals.b1))) (.seq (.reg 0 [.g (.frz 9), .g (.nilv 9 3), zm 0 65 9, zm 1 4 65, .g (.keep [4])]) (.ret))))))
def hall_intervals.rs : List Rs := [.sl 4]
theorem hall_intervals.ok : isFn Tryz.prog hall_intervals.id 66 hall_intervals.ann hall_intervals.ir hall_intervals.rs := ⟨Tryz.f34, _, Tryz.func34, rfl, rfl, by kernel_rfl, by kernel_rfl⟩
-- (hallmark/hall.ends).size
def hall_ends_size.ann : List (Nat × RA) := [(0, rk [1]), (1, rk [2])]
def hall_ends_size.ir : C := .seq (.reg 1 [.o 0 (.box (some 1) 0 2 (.tmp 0)), zk 1 2 0, .g (.keep [1])]) (.seq (.reg 0 [zf 0 3 1 1, zl 1 4 1 3, zf 2 5 1 0, zl 3 6 1 5, za 4 7 .sub 4 6, zd 5 8 .add 7 1, zm 6 2 8, .g (.keep [2])]) (.ret))
def hall_ends_size.rs : List Rs := [.sl 2]
theorem hall_ends_size.ok : isFn Tryz.prog hall_ends_size.id 9 hall_ends_size.ann hall_ends_size.ir hall_ends_size.rs := ⟨Tryz.f35, _, Tryz.func35, rfl, rfl, by kernel_rfl, by kernel_rfl⟩
-- hallmark/hall.sorted
def hall_sorted.ann : List (Nat × RA) := [(0, rk [0]), (1, rp [0] [(1, [1000000])]), (2, rp [2] [(1, [1000000])])]
def hall_sorted.ir : C := .seq (.reg 0 [.o 0 (.lt (some 2) (.mov (.const (.slice none 0 0)))), .g (.keep [0])]) (.seq (.reg 0 [zm 0 3 0, .o 1 (.callm (some 4) (.func slices_Sort_Lint_int.id) [(.tmp 3)]), .g (.keep [0])]) (.seq (.reg 0 [zm 0 5 0, .o 1 (.callm (some 6) (.func slices_Compact_Lint_int.id) [(.tmp 5)]), zm 2 2 6, .g (.keep [2])]) (.ret)))
def hall_sorted.rs : List Rs := [.sl 2]
theorem hall_sorted.ok : isFn Tryz.prog hall_sorted.id 7 hall_sorted.ann hall_sorted.ir hall_sorted.rs := ⟨Tryz.f36, _, Tryz.func36, rfl, rfl, by kernel_rfl, by kernel_rfl⟩
-- slices.Clone[[]int,int]
def slices_Clone_Lint_int.ann : List (Nat × RA) := [(0, rk [0]), (1, rk [0, 4]), (2, rk [2]), (3, rk [2])]
def slices_Clone_Lint_int.ir : C := .seq (.reg 0 [.o 0 (.lt (some 2) (.mov (.const (.slice none 0 0)))), .g (.keep [0])]) (.seq (.seq (.reg 0 [zm 0 3 0, .o 1 (.lt (some 4) (.eqN false (.tmp 3))), .g (.keep [0, 4])]) (.cond (.tmp 4) (.seq (.reg 0 [.o 0 (.lt (some 2) (.mov (.const (.slice none 0 0)))), .g (.keep [2])]) (.ret)) (.skip))) (.seq (.reg 2 [.o 0 (.bsl (some 5) 0 1 0 [.a (.int .i64 0)] []), zm 1 6 0, .o 2 (.app [] (some 7) 1 1 8 (.tmp 5) (.tmp 6)), zm 3 2 7, .g (.keep [2])]) (.ret)))
def slices_Clone_Lint_int.rs : List Rs := [.sl 2]
theorem slices_Clone_Lint_int.ok : isFn Tryz.prog slices_Clone_Lint_int.id 8 slices_Clone_Lint_int.ann slices_Clone_Lint_int.ir slices_Clone_Lint_int.rs := ⟨Tryz.f37, _, Tryz.func37, rfl, rfl, by kernel_rfl, by kernel_rfl⟩
-- slices.IndexFunc[[]hallmark/hall.interval,hallmark/hall.interval]
def slices_IndexFunc_Lhall_interval_hall_interval.ann : List (Nat × RA) := [(0, rk [0, 1]), (1, rk [0, 1, 7, 8]), (2, rk [0, 1, 7, 8, 9]), (3, rk [0, 1, 5, 7, 8]), (4, rk [0, 1, 5, 7, 8, 16]), (5, rk [4]), (6, rk [0, 1, 7, 8]), (7, rk [4])]
def slices_IndexFunc_Lhall_interval_hall_interval.b0 : C := .seq (.reg 0 [za 0 9 .lss 8 7, .g (.keep [0, 1, 7, 8, 9])]) (.seq (.cond (.tmp 9) (.skip) (.exit 0)) (.seq (.block 1 (.seq (.reg 0 [zm 0 10 8, zm 1 5 10, .g (.keep [0, 1, 5, 7, 8])]) (.seq (.reg 0 [zm 0 11 1, zm 1 12 0, zm 2 13 5, zx 3 14 3 12 13, zL 4 15 3 14, .o 5 (.callv (some 16) (.tmp 11) [(.tmp 15)]), .g (.keep [0, 1, 5, 7, 8, 16])]) (.cond (.tmp 16) (.seq (.reg 0 [zm 0 17 5, zm 1 4 17, .g (.keep [4])]) (.ret)) (.skip))))) (.reg 0 [zd 0 18 .add 8 1, zm 1 8 18, .g (.keep [0, 1, 7, 8])])))
def slices_IndexFunc_Lhall_interval_hall_interval.ir : C := .seq (.reg 0 [zk 0 4 0, .g (.keep [0, 1])]) (.seq (.seq (.reg 0 [zm 0 6 0, zn 1 7 6, zk 2 8 0, .g (.keep [0, 1, 7, 8])]) (.block 0 (.loop slices_IndexFunc_Lhall_interval_hall_interval.b0))) (.seq (.reg 0 [zk 0 4 (-1), .g (.keep [4])]) (.ret)))
def slices_IndexFunc_Lhall_interval_hall_interval.rs : List Rs := [.sl 4]
theorem slices_IndexFunc_Lhall_interval_hall_interval.ok : isFn Tryz.prog slices_IndexFunc_Lhall_interval_hall_interval.id 19 slices_IndexFunc_Lhall_interval_hall_interval.ann slices_IndexFunc_Lhall_interval_hall_interval.ir slices_IndexFunc_Lhall_interval_hall_interval.rs := ⟨Tryz.f38, _, Tryz.func38, rfl, rfl, by kernel_rfl, by kernel_rfl⟩
-- hallmark/hall.Cuts$1
def hall_Cuts_1.ann : List (Nat × RA) := [(0, rk [1, 2, 3, 4]), (1, rk [5])]
def hall_Cuts_1.ir : C := .seq (.reg 1 [.o 0 (.box (some 4) 0 3 (.tmp 0)), zb 1 5 false, .g (.keep [1, 2, 3, 4])]) (.seq (.reg 0 [zf 0 6 4 0, zL 1 7 2 6, zl 2 8 1 1, .o 3 (.call (some 9) hall_ends_has.id [(.tmp 7), (.tmp 8)]), zm 4 10 9, yL 5 10 true 11 3 4, yl 6 10 true 12 1 2, yl 7 10 true 13 1 3, .gd 8 10 true (some 14) (.call (some 14) hall_holds.id [(.tmp 11), (.tmp 12), (.tmp 13)]), yq 9 10 true 15 14, zr 10 16 10 15 false, zm 11 5 16, .g (.keep [5])]) (.ret))
def hall_Cuts_1.rs : List Rs := [.sl 5]
theorem hall_Cuts_1.ok : isFn Tryz.prog hall_Cuts_1.id 17 hall_Cuts_1.ann hall_Cuts_1.ir hall_Cuts_1.rs := ⟨Tryz.f39, _, Tryz.func39, rfl, rfl, by kernel_rfl, by kernel_rfl⟩
-- (hallmark/hall.ends).has
def hall_ends_has.ann : List (Nat × RA) := [(0, rk [1, 2]), (1, rk [4])]
def hall_ends_has.ir : C := .seq (.reg 1 [.o 0 (.box (some 2) 0 2 (.tmp 0)), zb 1 4 false, .g (.keep [1, 2])]) (.seq (.reg 0 [zm 0 5 1, zf 1 6 2 0, zl 2 7 1 6, za 3 8 .geq 5 7, zm 4 9 8, ym 5 9 true 10 1, yf 6 9 true 11 2 1, yl 7 9 true 12 1 11, ya 8 9 true 13 .leq 10 12, zr 9 14 9 13 false, zm 10 4 14, .g (.keep [4])]) (.ret))
def hall_ends_has.rs : List Rs := [.sl 4]
theorem hall_ends_has.ok : isFn Tryz.prog hall_ends_has.id 15 hall_ends_has.ann hall_ends_has.ir hall_ends_has.rs := ⟨Tryz.f40, _, Tryz.func40, rfl, rfl, by kernel_rfl, by kernel_rfl⟩
-- hallmark/hall.holds
def hall_holds.ann : List (Nat × RA) := [(0, rk [1, 2, 3]), (1, rk [1, 2, 3, 7]), (2, rk [1, 2, 3, 7, 11, 12]), (3, rk [1, 2, 3, 7, 11, 12, 13]), (4, rk [1, 2, 3, 7, 8, 11, 12]), (5, rk [1, 2, 3, 7, 8, 11, 12, 20]), (6, rp [1, 2, 3, 7, 11, 12] [(2, [1000004])]), (7, rk [1, 2, 3, 7, 11, 12]), (8, rq [1, 3, 7, 9] [0, 2, 3, 1, 4, 5, 6, 7] [(1, [1000003, 3, 28]), (5, [1000003])]), (9, rk [3, 7, 9, 34]), (10, rq [6] [0, 1, 2, 3, 4, 5] [(3, [1000003, 9])]), (11, ro [6] [0, 1, 2, 3, 4, 5, 6])]
def hall_holds.b0 : C := .seq (.reg 0 [za 0 13 .lss 12 11, .g (.keep [1, 2, 3, 7, 11, 12, 13])]) (.seq (.cond (.tmp 13) (.skip) (.exit 0)) (.seq (.block 1 (.seq (.reg 0 [zm 0 14 12, zm 1 8 14, .g (.keep [1, 2, 3, 7, 8, 11, 12])]) (.seq (.reg 0 [zm 0 15 1, zm 1 16 8, zx 2 17 1 15 16, zl 3 18 1 17, zm 4 19 2, za 5 20 .eql 18 19, .g (.keep [1, 2, 3, 7, 8, 11, 12, 20])]) (.cond (.tmp 20) (.reg 2 [zm 0 21 7, zm 1 22 8, .o 2 (.bsv (some 23) 1 1 [.a (.int .i64 0)] [(0, (.tmp 22))]), .o 3 (.app [] (some 24) 1 1 8 (.tmp 21) (.tmp 23)), zm 4 7 24, .g (.keep [1, 2, 3, 7, 11, 12])]) (.skip))))) (.reg 0 [zd 0 25 .add 12 1, zm 1 12 25, .g (.keep [1, 2, 3, 7, 11, 12])])))
def hall_holds.ir : C := .seq (.reg 1 [.o 0 (.box (some 3) 0 3 (.tmp 0)), zb 1 6 false, .g (.keep [1, 2, 3])]) (.seq (.reg 0 [.o 0 (.lt (some 7) (.mov (.const (.slice none 0 0)))), .g (.keep [1, 2, 3, 7])]) (.seq (.seq (.reg 0 [zm 0 10 1, zn 1 11 10, zk 2 12 0, .g (.keep [1, 2, 3, 7, 11, 12])]) (.block 0 (.loop hall_holds.b0))) (.seq (.reg 2 [zm 0 26 7, zf 2 28 3 2, zl 3 29 1 28, .o 1 (.calla [3, 28] (some 27) (.func slices_Clone_Lint_int.id) [(.tmp 26)]), .o 4 (.app [] (some 30) 0 1 8 (.tmp 27) (.tmp 29)), .o 5 (.calla [] (some 31) (.func hall_mask.id) [(.tmp 30)]), .o 6 (.alloc (some 9) 1 64 [.a (.int .u64 0), .a (.int .u64 0), .a (.int .u64 0), .a (.int .u64 0), .a (.int .u64 0), .a (.int .u64 0), .a (.int .u64 0), .a (.int .u64 0), .a (.int .u64 0), .a (.int .u64 0), .a (.int .u64 0), .a (.int .u64 0), .a (.int .u64 0), .a (.int .u64 0), .a (.int .u64 0), .a (.int .u64 0), .a (.int .u64 0), .a (.int .u64 0), .a (.int .u64 0), .a (.int .u64 0), .a (.int .u64 0), .a (.int .u64 0), .a (.int .u64 0), .a (.int .u64 0), .a (.int .u64 0), .a (.int .u64 0), .a (.int .u64 0), .a (.int .u64 0), .a (.int .u64 0), .a (.int .u64 0), .a (.int .u64 0), .a (.int .u64 0), .a (.int .u64 0), .a (.int .u64 0), .a (.int .u64 0), .a (.int .u64 0), .a (.int .u64 0), .a (.int .u64 0), .a (.int .u64 0), .a (.int .u64 0), .a (.int .u64 0), .a (.int .u64 0), .a (.int .u64 0), .a (.int .u64 0), .a (.int .u64 0), .a (.int .u64 0), .a (.int .u64 0), .a (.int .u64 0), .a (.int .u64 0), .a (.int .u64 0), .a (.int .u64 0), .a (.int .u64 0), .a (.int .u64 0), .a (.int .u64 0), .a (.int .u64 0), .a (.int .u64 0), .a (.int .u64 0), .a (.int .u64 0), .a (.int .u64 0), .a (.int .u64 0), .a (.int .u64 0), .a (.int .u64 0), .a (.int .u64 0), .a (.int .u64 0)]), .o 7 (.store [] 64 (.tmp 9) (.tmp 31)), .g (.keep [1, 3, 7, 9])]) (.seq (.seq (.reg 0 [zm 0 32 1, zn 1 33 32, zd 2 34 .leq 33 4096, .g (.keep [3, 7, 9, 34])]) (.cond (.tmp 34) (.seq (.reg 0 [zL 0 35 64 9, zf 1 36 3 2, zl 2 37 1 36, .o 3 (.calla [9] (some 38) (.func hall_mask.id) [(.tmp 37)]), .o 4 (.lt (some 39) (.eqD false [(0, 0), (1, 0), (2, 0), (3, 0), (4, 0), (5, 0), (6, 0), (7, 0), (8, 0), (9, 0), (10, 0), (11, 0), (12, 0), (13, 0), (14, 0), (15, 0), (16, 0), (17, 0), (18, 0), (19, 0), (20, 0), (21, 0), (22, 0), (23, 0), (24, 0), (25, 0), (26, 0), (27, 0), (28, 0), (29, 0), (30, 0), (31, 0), (32, 0), (33, 0), (34, 0), (35, 0), (36, 0), (37, 0), (38, 0), (39, 0), (40, 0), (41, 0), (42, 0), (43, 0), (44, 0), (45, 0), (46, 0), (47, 0), (48, 0), (49, 0), (50, 0), (51, 0), (52, 0), (53, 0), (54, 0), (55, 0), (56, 0), (57, 0), (58, 0), (59, 0), (60, 0), (61, 0), (62, 0), (63, 0)] (.tmp 35) (.tmp 38))), zm 5 6 39, .g (.keep [6])]) (.ret)) (.skip))) (.seq (.reg 0 [zf 0 40 3 2, zl 1 41 1 40, zm 2 42 7, .o 3 (.lt (some 43) (.ixS 1 (.tmp 42) (.const (.int .i64 0)))), zl 4 44 1 43, .o 5 (.call (some 45) slices_Contains_Lint_int.id [(.tmp 41), (.tmp 44)]), zm 6 6 45, .g (.keep [6])]) (.ret))))))
def hall_holds.rs : List Rs := [.sl 6]
theorem hall_holds.ok : isFn Tryz.prog hall_holds.id 46 hall_holds.ann hall_holds.ir hall_holds.rs := ⟨Tryz.f41, _, Tryz.func41, rfl, rfl, by kernel_rfl, by kernel_rfl⟩
-- (hallmark/hall.interval).hall
def hall_interval_hall.ann : List (Nat × RA) := [(0, rk [1, 2, 4]), (1, rk [1, 2, 4, 5]), (2, rk [1, 4, 5, 16, 17, 18]), (3, rk [1, 4, 5, 16, 17, 18, 19]), (4, rk [1, 4, 5, 7, 16, 17, 18]), (5, rq [1, 4, 5, 16, 17, 18] [0, 1, 2, 3, 4, 5, 6, 7, 8, 9] [(6, [1000004])]), (6, rk [1, 4, 5, 16, 17, 18]), (7, { gs := [(0, [.wk])], keep := some [4] })]
def hall_interval_hall.b0 : C := .seq (.reg 0 [za 0 19 .lss 18 17, .g (.keep [1, 4, 5, 16, 17, 18, 19])]) (.seq (.cond (.tmp 19) (.skip) (.exit 0)) (.seq (.block 1 (.seq (.reg 0 [zx 0 20 1 16 18, zl 1 21 1 20, zm 2 7 21, .g (.keep [1, 4, 5, 7, 16, 17, 18])]) (.reg 2 [zf 0 22 5 2, zl 1 23 1 22, zm 2 24 1, zm 3 25 7, zx 4 26 1 24 25, zl 5 27 1 26, .o 6 (.bsv (some 28) 1 1 [.a (.int .i64 0)] [(0, (.tmp 27))]), .o 7 (.app [] (some 29) 1 1 8 (.tmp 23) (.tmp 28)), zf 8 30 5 2, .o 9 (.store [] 1 (.tmp 30) (.tmp 29)), .g (.keep [1, 4, 5, 16, 17, 18])]))) (.reg 0 [zd 0 31 .add 18 1, zm 1 18 31, .g (.keep [1, 4, 5, 16, 17, 18])])))
def hall_interval_hall.ir : C := .seq (.reg 2 [.o 0 (.box (some 2) 0 3 (.tmp 0)), .o 1 (.alloc (some 4) 1 3 [.a (.int .i64 0), .a (.int .i64 0), .a (.slice none 0 0)]), .g (.keep [1, 2, 4])]) (.seq (.reg 1 [zf 0 8 2 0, zf 1 9 8 0, zl 2 10 1 9, zf 3 11 2 0, zf 4 12 11 1, zl 5 13 1 12, .o 6 (.lt (some 14) (.build [.a (.int .i64 0), .a (.int .i64 0), .a (.slice none 0 0)] [(0, 1, (.tmp 10)), (1, 1, (.tmp 13))])), .o 7 (.alloc (some 5) 0 3 [.a (.int .i64 0), .a (.int .i64 0), .a (.slice none 0 0)]), .o 8 (.store [] 3 (.tmp 5) (.tmp 14)), .g (.keep [1, 2, 4, 5])]) (.seq (.seq (.reg 0 [zf 0 15 2 2, zl 1 16 1 15, zn 2 17 16, zk 3 18 0, .g (.keep [1, 4, 5, 16, 17, 18])]) (.block 0 (.loop hall_interval_hall.b0))) (.seq (.reg 0 [.g (.wk), zL 0 32 3 5, .o 1 (.store [] 3 (.tmp 4) (.tmp 32)), .g (.keep [4])]) (.ret))))
def hall_interval_hall.rs : List Rs := [.ce 4 true 3]
theorem hall_interval_hall.ok : isFn Tryz.prog hall_interval_hall.id 33 hall_interval_hall.ann hall_interval_hall.ir hall_interval_hall.rs := ⟨Tryz.f42, _, Tryz.func42, rfl, rfl, by kernel_rfl, by kernel_rfl⟩
-- (*hallmark/dom.set).has
def dom_set_has.ann : List (Nat × RA) := [(0, rk [0, 1]), (1, rk [4])]
def dom_set_has.ir : C := .seq (.reg 0 [zb 0 4 false, .g (.keep [0, 1])]) (.seq (.reg 0 [zm 0 5 0, zm 1 6 1, zd 2 7 .quo 6 32, zc 3 8 5, .o 4 (.lt (some 9) (.ixA 2 1 (.tmp 8) (.tmp 7))), zl 5 10 1 9, zm 6 11 1, zd 7 12 .rem 11 32, za 8 13 .shr 10 12, .o 9 (.lt (some 14) (.bin .and (.tmp 13) (.const (.int .u32 1)))), .o 10 (.lt (some 15) (.bin .eql (.tmp 14) (.const (.int .u32 1)))), zm 11 4 15, .g (.keep [4])]) (.ret))
def dom_set_has.rs : List Rs := [.sl 4]
theorem dom_set_has.ok : isFn Tryz.prog dom_set_has.id 16 dom_set_has.ann dom_set_has.ir dom_set_has.rs := ⟨Tryz.f43, _, Tryz.func43, rfl, rfl, by kernel_rfl, by kernel_rfl⟩
-- slices.Clone[[]hallmark/dom.domain,hallmark/dom.domain]
def slices_Clone_Ldom_domain_dom_domain.ann : List (Nat × RA) := [(0, rk [0]), (1, rk [0, 4]), (2, rk [2]), (3, rp [2] [(0, [1000004])])]
def slices_Clone_Ldom_domain_dom_domain.ir : C := .seq (.reg 0 [.o 0 (.lt (some 2) (.mov (.const (.slice none 0 0)))), .g (.keep [0])]) (.seq (.seq (.reg 0 [zm 0 3 0, .o 1 (.lt (some 4) (.eqN false (.tmp 3))), .g (.keep [0, 4])]) (.cond (.tmp 4) (.seq (.reg 0 [.o 0 (.lt (some 2) (.mov (.const (.slice none 0 0)))), .g (.keep [2])]) (.ret)) (.skip))) (.seq (.reg 2 [.o 0 (.bsv (some 5) 4 0 [.a (.int .i64 0), .a (.int .i64 0), .a (.int .u32 0), .a (.int .u32 0)] []), zm 1 6 0, .o 2 (.app [] (some 7) 1 4 24 (.tmp 5) (.tmp 6)), zm 3 2 7, .g (.keep [2])]) (.ret)))
def slices_Clone_Ldom_domain_dom_domain.rs : List Rs := [.sl 2]
theorem slices_Clone_Ldom_domain_dom_domain.ok : isFn Tryz.prog slices_Clone_Ldom_domain_dom_domain.id 8 slices_Clone_Ldom_domain_dom_domain.ann slices_Clone_Ldom_domain_dom_domain.ir slices_Clone_Ldom_domain_dom_domain.rs := ⟨Tryz.f44, _, Tryz.func44, rfl, rfl, by kernel_rfl, by kernel_rfl⟩
-- (*hallmark/hallmarkroom.Count).Text
def hallmarkroom_Count_Text.ann : List (Nat × RA) := [(0, rp [0, 1] [(1, [1000000])]), (1, rp [] [(3, [1000000])])]
def hallmarkroom_Count_Text.ir : C := .seq (.reg 0 [zm 0 4 0, .o 1 (.callm (some 5) (.func hallmarkroom_Count_Add.id) [(.tmp 4), (.const (.int .i64 1))]), .g (.keep [0, 1])]) (.reg 0 [zm 0 6 0, zm 1 7 1, .o 2 (.lt (some 8) (.lenStr (.tmp 7))), .o 3 (.callm (some 9) (.func hallmarkroom_Count_Add.id) [(.tmp 6), (.tmp 8)]), .g (.keep [])])
def hallmarkroom_Count_Text.rs : List Rs := []
theorem hallmarkroom_Count_Text.ok : isFn Tryz.prog hallmarkroom_Count_Text.id 10 hallmarkroom_Count_Text.ann hallmarkroom_Count_Text.ir hallmarkroom_Count_Text.rs := ⟨Tryz.f45, _, Tryz.func45, rfl, rfl, by kernel_rfl, by kernel_rfl⟩
-- (*hallmark/hallmarkroom.Count).Con
def hallmarkroom_Count_Con.ann : List (Nat × RA) := [(0, rk [0, 3]), (1, rp [0, 3] [(1, [1000000])]), (2, rp [0, 3] [(4, [1000000])]), (3, rp [0, 3] [(4, [1000000])]), (4, rp [0, 3] [(4, [1000000])]), (5, rp [] [(3, [1000000])])]
def hallmarkroom_Count_Con.ir : C := .seq (.reg 1 [.o 0 (.box (some 3) 0 10 (.tmp 1)), .g (.keep [0, 3])]) (.seq (.reg 0 [zm 0 4 0, .o 1 (.callm (some 5) (.func hallmarkroom_Count_Add.id) [(.tmp 4), (.const (.int .i64 1))]), .g (.keep [0, 3])]) (.seq (.reg 0 [zm 0 6 0, zf 1 7 3 2, zl 2 8 1 7, zn 3 9 8, .o 4 (.callm (some 10) (.func hallmarkroom_Count_Add.id) [(.tmp 6), (.tmp 9)]), .g (.keep [0, 3])]) (.seq (.reg 0 [zm 0 11 0, zf 1 12 3 7, zl 2 13 1 12, zn 3 14 13, .o 4 (.callm (some 15) (.func hallmarkroom_Count_Add.id) [(.tmp 11), (.tmp 14)]), .g (.keep [0, 3])]) (.seq (.reg 0 [zm 0 16 0, zf 1 17 3 8, zl 2 18 1 17, zn 3 19 18, .o 4 (.callm (some 20) (.func hallmarkroom_Count_Add.id) [(.tmp 16), (.tmp 19)]), .g (.keep [0, 3])]) (.reg 0 [zm 0 21 0, zf 1 22 3 9, zl 2 23 1 22, .o 3 (.callm (some 24) (.func hallmarkroom_Count_Lists.id) [(.tmp 21), (.tmp 23)]), .g (.keep [])])))))
def hallmarkroom_Count_Con.rs : List Rs := []
theorem hallmarkroom_Count_Con.ok : isFn Tryz.prog hallmarkroom_Count_Con.id 25 hallmarkroom_Count_Con.ann hallmarkroom_Count_Con.ir hallmarkroom_Count_Con.rs := ⟨Tryz.f46, _, Tryz.func46, rfl, rfl, by kernel_rfl, by kernel_rfl⟩
-- hallmark/hallmarklaw13.sameInts
def hallmarklaw13_sameInts.ann : List (Nat × RA) := [(0, rk [0, 1]), (1, rk [0, 1, 10]), (2, rk [4]), (3, rk [0, 1, 5]), (4, rk [0, 1, 5, 14]), (5, rk [0, 1, 5]), (6, ro [0, 1, 5, 25] [0, 1, 2, 3, 4, 5, 6, 7, 8]), (7, rk [4]), (8, rk [4])]
def hallmarklaw13_sameInts.b0 : C := .seq (.seq (.reg 0 [zm 0 11 5, zm 1 12 0, zn 2 13 12, za 3 14 .lss 11 13, .g (.keep [0, 1, 5, 14])]) (.cond (.tmp 14) (.skip) (.exit 0))) (.seq (.block 1 (.seq (.reg 0 [zm 0 17 0, zm 1 18 5, zx 2 19 1 17 18, zl 3 20 1 19, zm 4 21 1, zm 5 22 5, zx 6 23 1 21 22, zl 7 24 1 23, za 8 25 .neq 20 24, .g (.keep [0, 1, 5, 25])]) (.cond (.tmp 25) (.seq (.reg 0 [zb 0 4 false, .g (.keep [4])]) (.ret)) (.skip)))) (.reg 0 [zm 0 15 5, zd 1 16 .add 15 1, zm 2 5 16, .g (.keep [0, 1, 5])]))
def hallmarklaw13_sameInts.ir : C := .seq (.reg 0 [zb 0 4 false, .g (.keep [0, 1])]) (.seq (.seq (.reg 0 [zm 0 6 0, zn 1 7 6, zm 2 8 1, zn 3 9 8, za 4 10 .neq 7 9, .g (.keep [0, 1, 10])]) (.cond (.tmp 10) (.seq (.reg 0 [zb 0 4 false, .g (.keep [4])]) (.ret)) (.skip))) (.seq (.seq (.reg 0 [zk 0 5 0, .g (.keep [0, 1, 5])]) (.block 0 (.loop hallmarklaw13_sameInts.b0))) (.seq (.reg 0 [zb 0 4 true, .g (.keep [4])]) (.ret))))
def hallmarklaw13_sameInts.rs : List Rs := [.sl 4]
theorem hallmarklaw13_sameInts.ok : isFn Tryz.prog hallmarklaw13_sameInts.id 26 hallmarklaw13_sameInts.ann hallmarklaw13_sameInts.ir hallmarklaw13_sameInts.rs := ⟨Tryz.f47, _, Tryz.func47, rfl, rfl, by kernel_rfl, by kernel_rfl⟩
-- hallmark/model.variable
def model_variable.ann : List (Nat × RA) := [(0, rk [0, 1]), (1, rk [0, 1, 5]), (2, rp [5, 20] [(9, [1000001])]), (3, rk [4]), (4, rk [45]), (5, rk [4]), (6, rk [4])]
def model_variable.ir : C := .seq (.reg 0 [zk 0 4 0, .g (.keep [0, 1])]) (.seq (.reg 1 [zm 0 6 0, zm 1 7 1, zx 2 8 3 6 7, zL 3 9 3 8, .o 4 (.alloc (some 5) 0 3 [.a (.string ⟨#[]⟩), .a (.int .i64 0), .a (.int .i64 0)]), .o 5 (.store [] 3 (.tmp 5) (.tmp 9)), .g (.keep [0, 1, 5])]) (.seq (.seq (.reg 0 [zf 0 10 5 0, zl 1 11 1 10, .o 2 (.call (some 12) model_isName.id [(.tmp 11)]), zq 3 13 12, zm 4 14 13, ym 5 14 false 15 0, ym 6 14 false 16 1, .gd 7 14 false (some 17) (.lt (some 17) (.slSl 3 (.tmp 15) none (some (.tmp 16)))), .gd 8 14 false (some 18) (.lt (some 18) (.mkfn (.func model_variable_1.id) [] [(.tmp 5)])), .gd 9 14 false (some 19) (.callb (some 19) (.func slices_ContainsFunc_Lapi_Var_api_Var.id) [(.tmp 17), (.tmp 18)]), zp 10 20 14 true 19, .g (.keep [5, 20])]) (.cond (.tmp 20) (.seq (.reg 0 [zk 0 4 41, .g (.keep [4])]) (.ret)) (.skip))) (.seq (.seq (.reg 0 [zf 0 21 5 1, zl 1 22 1 21, .o 2 (.call (some 23) model_within.id [(.tmp 22), (.const (.int .i64 1000000000))]), zq 3 24 23, zm 4 25 24, yf 5 25 false 26 5 2, yl 6 25 false 27 1 26, .gd 7 25 false (some 28) (.call (some 28) model_within.id [(.tmp 27), (.const (.int .i64 1000000000))]), yq 8 25 false 29 28, zp 9 30 25 true 29, zm 10 31 30, yf 11 31 false 32 5 1, yl 12 31 false 33 1 32, yf 13 31 false 34 5 2, yl 14 31 false 35 1 34, ya 15 31 false 36 .gtr 33 35, zp 16 37 31 true 36, zm 17 38 37, yf 18 38 false 39 5 2, yl 19 38 false 40 1 39, yf 20 38 false 41 5 1, yl 21 38 false 42 1 41, ya 22 38 false 43 .sub 40 42, yd 23 38 false 44 .geq 43 64, zp 24 45 38 true 44, .g (.keep [45])]) (.cond (.tmp 45) (.seq (.reg 0 [zk 0 4 42, .g (.keep [4])]) (.ret)) (.skip))) (.seq (.reg 0 [zk 0 4 0, .g (.keep [4])]) (.ret)))))
def model_variable.rs : List Rs := [.sl 4]
theorem model_variable.ok : isFn Tryz.prog model_variable.id 46 model_variable.ann model_variable.ir model_variable.rs := ⟨Tryz.f48, _, Tryz.func48, rfl, rfl, by kernel_rfl, by kernel_rfl⟩
-- hallmark/model.con
def model_con.ann : List (Nat × RA) := [(0, rk [2, 3]), (1, ro [2, 3, 5, 6] [1, 2, 0, 3, 4, 5, 6, 7, 8, 9]), (2, rk [2, 3, 5, 32]), (3, rk [4]), (4, rk [2, 3, 5, 7, 8]), (5, rk [2, 5, 7, 8, 9]), (6, rk [2, 5, 7, 8, 9, 41]), (7, rk [4]), (8, rk [2, 5, 7, 8, 9, 45]), (9, rk [2, 5, 7, 8, 9, 45]), (10, rk [2, 5, 7, 8, 9, 45]), (11, rk [2, 5, 7, 8, 9, 45]), (12, rk [4]), (13, rk [2, 5, 8, 9, 70]), (14, rp [2, 5, 8, 9, 70] [(6, [1000001])]), (15, rp [2, 8, 9, 70] [(6, [1000001])]), (16, rp [2, 8, 70] [(3, [1000001])]), (17, rk [4]), (18, rk [2, 92]), (19, rk [4]), (20, rk [2, 94]), (21, rk [2, 94]), (22, rk [2, 94]), (23, rp [94] [(2, [1000001])]), (24, rk [4]), (25, rk [4])]
def model_con.ir : C := .seq (.reg 2 [.o 0 (.box (some 2) 0 10 (.tmp 0)), .o 1 (.box (some 3) 1 1 (.tmp 1)), zk 2 4 0, .g (.keep [2, 3])]) (.seq (.reg 1 [zf 1 12 2 0, zl 2 13 1 12, .o 0 (.call (some 11) model_kinds.id []), .o 3 (.lt (some 14) (.lkp true .i64 (.agg [.a (.bool false), .a (.bool false), .a (.bool false), .a (.bool false), .a (.bool false), .a (.bool false), .a (.bool false), .a (.bool false), .a (.bool false), .a (.nilFunc)]) (.tmp 11) (.tmp 13))), zm 4 10 14, ze 5 15 10 0, ze 6 16 10 1, .o 7 (.alloc (some 5) 0 10 [.a (.bool false), .a (.bool false), .a (.bool false), .a (.bool false), .a (.bool false), .a (.bool false), .a (.bool false), .a (.bool false), .a (.bool false), .a (.nilFunc)]), .o 8 (.store [] 10 (.tmp 5) (.tmp 15)), zm 9 6 16, .g (.keep [2, 3, 5, 6])]) (.seq (.seq (.reg 0 [zm 0 17 6, zq 1 18 17, zm 2 19 18, yf 3 19 false 20 5 7, yl 4 19 false 21 1 20, ym 5 19 false 22 21, yf 6 22 true 23 2 1, yl 7 22 true 24 1 23, yd 8 22 true 25 .lss 24 1, ym 9 22 true 26 25, yf 10 26 false 27 2 1, yl 11 26 false 28 1 27, yd 12 26 false 29 .gtr 28 3, yp 13 22 true 30 26 true 29, yr 14 19 false 31 22 30 false, zp 15 32 19 true 31, .g (.keep [2, 3, 5, 32])]) (.cond (.tmp 32) (.seq (.reg 0 [zk 0 4 43, .g (.keep [4])]) (.ret)) (.skip))) (.seq (.reg 0 [zf 0 34 2 2, zl 1 35 1 34, zl 2 36 1 3, .o 3 (.call (some 37) model_terms.id [(.tmp 35), (.tmp 36)]), zm 4 33 37, ze 5 38 33 0, ze 6 39 33 1, zm 7 7 38, zm 8 8 39, .g (.keep [2, 3, 5, 7, 8])]) (.seq (.reg 0 [.o 0 (.lt (some 40) (.mkfn (.func model_con_1.id) [] [(.tmp 3)])), zm 1 9 40, .g (.keep [2, 5, 7, 8, 9])]) (.seq (.block 0 (.seq (.reg 0 [zL 0 42 10 2, zL 1 43 10 5, .o 2 (.call (some 44) model_field.id [(.tmp 42), (.tmp 43)]), zm 3 41 44, .g (.keep [2, 5, 7, 8, 9, 41])]) (.cond (.tmp 41) (.seq (.reg 0 [zk 0 4 48, .g (.keep [4])]) (.ret)) (.seq (.seq (.reg 0 [zf 0 46 5 0, zl 1 47 1 46, zf 2 48 2 2, zl 3 49 1 48, zn 4 50 49, .o 5 (.call (some 51) model_counts.id [(.tmp 47), (.tmp 50)]), zq 6 52 51, zm 7 45 52, .g (.keep [2, 5, 7, 8, 9, 45])]) (.cond (.tmp 45) (.skip) (.seq (.reg 0 [zf 0 53 5 1, zl 1 54 1 53, zf 2 55 2 7, zl 3 56 1 55, zn 4 57 56, .o 5 (.call (some 58) model_counts.id [(.tmp 54), (.tmp 57)]), zq 6 59 58, zm 7 45 59, .g (.keep [2, 5, 7, 8, 9, 45])]) (.cond (.tmp 45) (.skip) (.seq (.reg 0 [zf 0 60 5 2, zl 1 61 1 60, zf 2 62 2 8, zl 3 63 1 62, zn 4 64 63, .o 5 (.call (some 65) model_counts.id [(.tmp 61), (.tmp 64)]), zq 6 66 65, zm 7 45 66, .g (.keep [2, 5, 7, 8, 9, 45])]) (.cond (.tmp 45) (.skip) (.reg 0 [zL 0 67 10 2, zL 1 68 10 5, .o 2 (.call (some 69) model_wide.id [(.tmp 67), (.tmp 68)]), zm 3 45 69, .g (.keep [2, 5, 7, 8, 9, 45])]))))))) (.cond (.tmp 45) (.seq (.reg 0 [zk 0 4 47, .g (.keep [4])]) (.ret)) (.seq (.seq (.reg 0 [zm 0 71 7, zm 1 70 71, .g (.keep [2, 5, 8, 9, 70])]) (.cond (.tmp 70) (.skip) (.seq (.reg 0 [zf 0 72 5 4, zl 1 73 1 72, zm 2 74 73, ym 3 74 true 75 9, yf 4 74 true 76 2 5, yl 5 74 true 77 1 76, .gd 6 74 true (some 78) (.callb (some 78) (.tmp 75) [(.tmp 77)]), zr 7 79 74 78 false, zm 8 70 79, .g (.keep [2, 5, 8, 9, 70])]) (.cond (.tmp 70) (.skip) (.seq (.reg 0 [zf 0 80 5 5, zl 1 81 1 80, zm 2 82 81, ym 3 82 true 83 9, yf 4 82 true 84 2 6, yl 5 82 true 85 1 84, .gd 6 82 true (some 86) (.callb (some 86) (.tmp 83) [(.tmp 85)]), zr 7 87 82 86 false, zm 8 70 87, .g (.keep [2, 8, 9, 70])]) (.cond (.tmp 70) (.skip) (.reg 0 [zf 0 88 2 7, zl 1 89 1 88, zm 2 90 9, .o 3 (.callb (some 91) (.func slices_ContainsFunc_Lint_int.id) [(.tmp 89), (.tmp 90)]), zm 4 70 91, .g (.keep [2, 8, 70])]))))))) (.cond (.tmp 70) (.seq (.reg 0 [zk 0 4 44, .g (.keep [4])]) (.ret)) (.seq (.reg 0 [zm 0 93 8, zm 1 92 93, .g (.keep [2, 92])]) (.cond (.tmp 92) (.seq (.reg 0 [zk 0 4 45, .g (.keep [4])]) (.ret)) (.seq (.seq (.reg 0 [zf 0 95 2 3, zl 1 96 1 95, .o 2 (.call (some 97) model_within.id [(.tmp 96), (.const (.int .i64 1000000000))]), zq 3 98 97, zm 4 94 98, .g (.keep [2, 94])]) (.cond (.tmp 94) (.skip) (.seq (.reg 0 [zf 0 99 2 4, zl 1 100 1 99, .o 2 (.call (some 101) model_within.id [(.tmp 100), (.const (.int .i64 1000000000))]), zq 3 102 101, zm 4 94 102, .g (.keep [2, 94])]) (.cond (.tmp 94) (.skip) (.seq (.reg 0 [zf 0 103 2 8, zl 1 104 1 103, .o 2 (.call (some 105) model_great.id [(.tmp 104)]), zm 3 94 105, .g (.keep [2, 94])]) (.cond (.tmp 94) (.skip) (.reg 0 [zf 0 106 2 9, zl 1 107 1 106, .o 2 (.callb (some 108) (.func slices_ContainsFunc_LLint_Lint.id) [(.tmp 107), (.func model_great.id)]), zm 3 94 108, .g (.keep [94])]))))))) (.cond (.tmp 94) (.seq (.reg 0 [zk 0 4 46, .g (.keep [4])]) (.ret)) (.skip)))))))))))) (.seq (.reg 0 [zk 0 4 0, .g (.keep [4])]) (.ret)))))))
def model_con.rs : List Rs := [.sl 4]
theorem model_con.ok : isFn Tryz.prog model_con.id 109 model_con.ann model_con.ir model_con.rs := ⟨Tryz.f49, _, Tryz.func49, rfl, rfl, by kernel_rfl, by kernel_rfl⟩
-- hallmark/model.goal
def model_goal.ann : List (Nat × RA) := [(0, rk [1]), (1, rk [1, 3, 4]), (2, rk [1, 3, 4, 14]), (3, rk [2]), (4, rk [3, 4, 24]), (5, rk [2]), (6, rk [4, 32]), (7, rk [2]), (8, rk [34]), (9, rk [2]), (10, rk [2])]
def model_goal.ir : C := .seq (.reg 1 [.o 0 (.box (some 1) 0 4 (.tmp 0)), zk 1 2 0, .g (.keep [1])]) (.seq (.reg 0 [zf 0 6 1 3, zl 1 7 1 6, zf 2 8 1 0, zl 3 9 1 8, zn 4 10 9, .o 5 (.call (some 11) model_terms.id [(.tmp 7), (.tmp 10)]), zm 6 5 11, ze 7 12 5 0, ze 8 13 5 1, zm 9 3 12, zm 10 4 13, .g (.keep [1, 3, 4])]) (.seq (.block 0 (.seq (.reg 0 [zf 0 15 1 2, zl 1 16 1 15, zq 2 17 16, zm 3 18 17, yf 4 18 true 19 1 3, yl 5 18 true 20 1 19, yn 6 18 true 21 20, yd 7 18 true 22 .gtr 21 0, zr 8 23 18 22 false, zm 9 14 23, .g (.keep [1, 3, 4, 14])]) (.cond (.tmp 14) (.seq (.reg 0 [zk 0 2 48, .g (.keep [2])]) (.ret)) (.seq (.reg 0 [zf 0 25 1 2, zl 1 26 1 25, zf 2 27 1 3, zl 3 28 1 27, zn 4 29 28, .o 5 (.call (some 30) model_counts.id [(.tmp 26), (.tmp 29)]), zq 6 31 30, zm 7 24 31, .g (.keep [3, 4, 24])]) (.cond (.tmp 24) (.seq (.reg 0 [zk 0 2 47, .g (.keep [2])]) (.ret)) (.seq (.reg 0 [zm 0 33 3, zm 1 32 33, .g (.keep [4, 32])]) (.cond (.tmp 32) (.seq (.reg 0 [zk 0 2 44, .g (.keep [2])]) (.ret)) (.seq (.reg 0 [zm 0 35 4, zm 1 34 35, .g (.keep [34])]) (.cond (.tmp 34) (.seq (.reg 0 [zk 0 2 45, .g (.keep [2])]) (.ret)) (.skip)))))))))) (.seq (.reg 0 [zk 0 2 0, .g (.keep [2])]) (.ret))))
def model_goal.rs : List Rs := [.sl 2]
theorem model_goal.ok : isFn Tryz.prog model_goal.id 36 model_goal.ann model_goal.ir model_goal.rs := ⟨Tryz.f50, _, Tryz.func50, rfl, rfl, by kernel_rfl, by kernel_rfl⟩
-- hallmark/hall.inside
def hall_inside.ann : List (Nat × RA) := [(0, rk [0, 1, 5]), (1, rk [0, 1, 5, 7]), (2, rk [1, 5, 7, 10, 11, 12]), (3, rk [1, 5, 7, 10, 11, 12, 13]), (4, rk [1, 5, 7, 8, 9, 10, 11, 12]), (5, rq [1, 5, 7, 8, 10, 11, 12, 28] [0, 1, 2, 3, 4, 5, 6, 7, 8, 9, 10, 11] [(3, [1000003, 5]), (9, [1000003, 5])]), (6, rp [1, 5, 7, 10, 11, 12] [(2, [1000004])]), (7, rk [1, 5, 7, 10, 11, 12]), (8, { gs := [(0, [.frz 7, .nilv 7 1])], keep := some [6] })]
def hall_inside.b0 : C := .seq (.reg 0 [za 0 13 .lss 12 11, .g (.keep [1, 5, 7, 10, 11, 12, 13])]) (.seq (.cond (.tmp 13) (.skip) (.exit 0)) (.seq (.block 1 (.seq (.reg 0 [zm 0 14 12, zx 1 15 1 10 12, zl 2 16 1 15, zm 3 8 14, zm 4 9 16, .g (.keep [1, 5, 7, 8, 9, 10, 11, 12])]) (.seq (.reg 0 [zL 0 17 2 5, zm 1 18 1, zm 2 19 9, .o 3 (.calla [5] (some 20) (.func dom_Store_Lo.id) [(.tmp 18), (.tmp 19)]), .o 4 (.call (some 21) hall_ends_has.id [(.tmp 17), (.tmp 20)]), zm 5 22 21, yL 6 22 true 23 2 5, ym 7 22 true 24 1, ym 8 22 true 25 9, .gd 9 22 true (some 26) (.calla [5] (some 26) (.func dom_Store_Hi.id) [(.tmp 24), (.tmp 25)]), .gd 10 22 true (some 27) (.call (some 27) hall_ends_has.id [(.tmp 23), (.tmp 26)]), zr 11 28 22 27 false, .g (.keep [1, 5, 7, 8, 10, 11, 12, 28])]) (.cond (.tmp 28) (.reg 2 [zm 0 29 7, zm 1 30 8, .o 2 (.bsv (some 31) 1 1 [.a (.int .i64 0)] [(0, (.tmp 30))]), .o 3 (.app [] (some 32) 1 1 8 (.tmp 29) (.tmp 31)), zm 4 7 32, .g (.keep [1, 5, 7, 10, 11, 12])]) (.skip))))) (.reg 0 [zd 0 33 .add 12 1, zm 1 12 33, .g (.keep [1, 5, 7, 10, 11, 12])])))
def hall_inside.ir : C := .seq (.reg 1 [.o 0 (.box (some 5) 0 2 (.tmp 2)), .o 1 (.lt (some 6) (.mov (.const (.slice none 0 0)))), .g (.keep [0, 1, 5])]) (.seq (.reg 0 [.o 0 (.lt (some 7) (.mov (.const (.slice none 0 0)))), .g (.keep [0, 1, 5, 7])]) (.seq (.seq (.reg 0 [zm 0 10 0, zn 1 11 10, zk 2 12 0, .g (.keep [1, 5, 7, 10, 11, 12])]) (.block 0 (.loop hall_inside.b0))) (.seq (.reg 0 [.g (.frz 7), .g (.nilv 7 1), zm 0 34 7, zm 1 6 34, .g (.keep [6])]) (.ret))))
def hall_inside.rs : List Rs := [.sl 6]
theorem hall_inside.ok : isFn Tryz.prog hall_inside.id 35 hall_inside.ann hall_inside.ir hall_inside.rs := ⟨Tryz.f51, _, Tryz.func51, rfl, rfl, by kernel_rfl, by kernel_rfl⟩
-- slices.Compact[[]int,int]
def slices_Compact_Lint_int.ann : List (Nat × RA) := [(0, rk [0]), (1, rk [0, 8]), (2, rk [2]), (3, rk [0, 3]), (4, rk [0, 3, 13]), (5, rk [0, 3]), (6, ro [0, 3, 25] [0, 1, 2, 3, 4, 5, 6, 7, 8, 9]), (7, rk [0, 3, 4]), (8, rk [0, 3, 4, 5]), (9, rk [0, 3, 4, 5, 32]), (10, rk [0, 3, 4, 5]), (11, ro [0, 3, 4, 5, 44] [0, 1, 2, 3, 4, 5, 6, 7, 8, 9]), (12, rk [0, 3, 4, 5]), (13, rk [0, 3, 4, 5]), (14, rk [0, 3]), (15, rk [2]), (16, rk [2])]
def slices_Compact_Lint_int.b1 : C := .seq (.seq (.reg 0 [zm 0 29 5, zm 1 30 4, zn 2 31 30, za 3 32 .lss 29 31, .g (.keep [0, 3, 4, 5, 32])]) (.cond (.tmp 32) (.skip) (.exit 2))) (.seq (.block 3 (.seq (.reg 0 [zm 0 35 4, zm 1 36 5, zx 2 37 1 35 36, zl 3 38 1 37, zm 4 39 4, zm 5 40 5, zd 6 41 .sub 40 1, zx 7 42 1 39 41, zl 8 43 1 42, za 9 44 .neq 38 43, .g (.keep [0, 3, 4, 5, 44])]) (.cond (.tmp 44) (.seq (.reg 0 [zm 0 45 0, zm 1 46 3, zm 2 47 4, zm 3 48 5, zx 4 49 1 47 48, zl 5 50 1 49, zx 6 51 1 45 46, .o 7 (.store [] 1 (.tmp 51) (.tmp 50)), .g (.keep [0, 3, 4, 5])]) (.reg 0 [zm 0 52 3, zd 1 53 .add 52 1, zm 2 3 53, .g (.keep [0, 3, 4, 5])])) (.skip)))) (.reg 0 [zm 0 33 5, zd 1 34 .add 33 1, zm 2 5 34, .g (.keep [0, 3, 4, 5])]))
def slices_Compact_Lint_int.b0 : C := .seq (.seq (.reg 0 [zm 0 10 3, zm 1 11 0, zn 2 12 11, za 3 13 .lss 10 12, .g (.keep [0, 3, 13])]) (.cond (.tmp 13) (.skip) (.exit 0))) (.seq (.block 1 (.seq (.reg 0 [zm 0 16 0, zm 1 17 3, zx 2 18 1 16 17, zl 3 19 1 18, zm 4 20 0, zm 5 21 3, zd 6 22 .sub 21 1, zx 7 23 1 20 22, zl 8 24 1 23, za 9 25 .eql 19 24, .g (.keep [0, 3, 25])]) (.cond (.tmp 25) (.seq (.reg 0 [zm 0 26 0, zm 1 27 3, .o 2 (.lt (some 28) (.slSl 1 (.tmp 26) (some (.tmp 27)) none)), zm 3 4 28, .g (.keep [0, 3, 4])]) (.seq (.seq (.reg 0 [zk 0 5 1, .g (.keep [0, 3, 4, 5])]) (.block 2 (.loop slices_Compact_Lint_int.b1))) (.seq (.reg 0 [zm 0 54 0, zm 1 55 3, .o 2 (.lt (some 56) (.slSl 1 (.tmp 54) (some (.tmp 55)) none)), .o 3 (.clr none 1 [.a (.int .i64 0)] (.tmp 56)), .g (.keep [0, 3])]) (.seq (.reg 0 [zm 0 57 0, zm 1 58 3, .o 2 (.lt (some 59) (.slSl 1 (.tmp 57) none (some (.tmp 58)))), zm 3 2 59, .g (.keep [2])]) (.ret))))) (.skip)))) (.reg 0 [zm 0 14 3, zd 1 15 .add 14 1, zm 2 3 15, .g (.keep [0, 3])]))
def slices_Compact_Lint_int.ir : C := .seq (.reg 0 [.o 0 (.lt (some 2) (.mov (.const (.slice none 0 0)))), .g (.keep [0])]) (.seq (.seq (.reg 0 [zm 0 6 0, zn 1 7 6, zd 2 8 .lss 7 2, .g (.keep [0, 8])]) (.cond (.tmp 8) (.seq (.reg 0 [zm 0 9 0, zm 1 2 9, .g (.keep [2])]) (.ret)) (.skip))) (.seq (.seq (.reg 0 [zk 0 3 1, .g (.keep [0, 3])]) (.block 0 (.loop slices_Compact_Lint_int.b0))) (.seq (.reg 0 [zm 0 60 0, zm 1 2 60, .g (.keep [2])]) (.ret))))
def slices_Compact_Lint_int.rs : List Rs := [.sl 2]
theorem slices_Compact_Lint_int.ok : isFn Tryz.prog slices_Compact_Lint_int.id 61 slices_Compact_Lint_int.ann slices_Compact_Lint_int.ir slices_Compact_Lint_int.rs := ⟨Tryz.f53, _, Tryz.func53, rfl, rfl, by kernel_rfl, by kernel_rfl⟩
-- hallmark/hall.mask
def hall_mask.ann : List (Nat × RA) := [(0, rk [0, 2]), (1, rk [0, 2, 3]), (2, rk [2, 3, 6, 7, 8]), (3, rk [2, 3, 6, 7, 8, 9]), (4, rk [2, 3, 5, 6, 7, 8]), (5, rk [2, 3, 5, 6, 7, 8, 14]), (6, ro [2, 3, 6, 7, 8] [0, 1, 2, 3, 4, 5, 6, 7, 8, 9]), (7, rk [2, 3, 6, 7, 8]), (8, rk [2])]
def hall_mask.b0 : C := .seq (.reg 0 [za 0 9 .lss 8 7, .g (.keep [2, 3, 6, 7, 8, 9])]) (.seq (.cond (.tmp 9) (.skip) (.exit 0)) (.seq (.block 1 (.seq (.reg 0 [zx 0 10 1 6 8, zl 1 11 1 10, zm 2 5 11, .g (.keep [2, 3, 5, 6, 7, 8])]) (.seq (.reg 0 [zm 0 12 5, zd 1 13 .quo 12 64, zd 2 14 .lss 13 64, .g (.keep [2, 3, 5, 6, 7, 8, 14])]) (.cond (.tmp 14) (.reg 0 [zm 0 15 5, zd 1 16 .quo 15 64, .o 2 (.lt (some 17) (.ixA 64 1 (.tmp 3) (.tmp 16))), zl 3 18 1 17, zm 4 19 5, zd 5 20 .rem 19 64, .o 6 (.lt (some 21) (.bin .shl (.const (.int .u64 1)) (.tmp 20))), za 7 22 .or 18 21, .o 8 (.lt (some 23) (.ixA 64 1 (.tmp 3) (.tmp 16))), .o 9 (.store [] 1 (.tmp 23) (.tmp 22)), .g (.keep [2, 3, 6, 7, 8])]) (.skip))))) (.reg 0 [zd 0 24 .add 8 1, zm 1 8 24, .g (.keep [2, 3, 6, 7, 8])])))
def hall_mask.ir : C := .seq (.reg 1 [.o 0 (.alloc (some 2) 0 64 [.a (.int .u64 0), .a (.int .u64 0), .a (.int .u64 0), .a (.int .u64 0), .a (.int .u64 0), .a (.int .u64 0), .a (.int .u64 0), .a (.int .u64 0), .a (.int .u64 0), .a (.int .u64 0), .a (.int .u64 0), .a (.int .u64 0), .a (.int .u64 0), .a (.int .u64 0), .a (.int .u64 0), .a (.int .u64 0), .a (.int .u64 0), .a (.int .u64 0), .a (.int .u64 0), .a (.int .u64 0), .a (.int .u64 0), .a (.int .u64 0), .a (.int .u64 0), .a (.int .u64 0), .a (.int .u64 0), .a (.int .u64 0), .a (.int .u64 0), .a (.int .u64 0), .a (.int .u64 0), .a (.int .u64 0), .a (.int .u64 0), .a (.int .u64 0), .a (.int .u64 0), .a (.int .u64 0), .a (.int .u64 0), .a (.int .u64 0), .a (.int .u64 0), .a (.int .u64 0), .a (.int .u64 0), .a (.int .u64 0), .a (.int .u64 0), .a (.int .u64 0), .a (.int .u64 0), .a (.int .u64 0), .a (.int .u64 0), .a (.int .u64 0), .a (.int .u64 0), .a (.int .u64 0), .a (.int .u64 0), .a (.int .u64 0), .a (.int .u64 0), .a (.int .u64 0), .a (.int .u64 0), .a (.int .u64 0), .a (.int .u64 0), .a (.int .u64 0), .a (.int .u64 0), .a (.int .u64 0), .a (.int .u64 0), .a (.int .u64 0), .a (.int .u64 0), .a (.int .u64 0), .a (.int .u64 0), .a (.int .u64 0)]), .g (.keep [0, 2])]) (.seq (.reg 1 [.o 0 (.alloc (some 3) 0 64 [.a (.int .u64 0), .a (.int .u64 0), .a (.int .u64 0), .a (.int .u64 0), .a (.int .u64 0), .a (.int .u64 0), .a (.int .u64 0), .a (.int .u64 0), .a (.int .u64 0), .a (.int .u64 0), .a (.int .u64 0), .a (.int .u64 0), .a (.int .u64 0), .a (.int .u64 0), .a (.int .u64 0), .a (.int .u64 0), .a (.int .u64 0), .a (.int .u64 0), .a (.int .u64 0), .a (.int .u64 0), .a (.int .u64 0), .a (.int .u64 0), .a (.int .u64 0), .a (.int .u64 0), .a (.int .u64 0), .a (.int .u64 0), .a (.int .u64 0), .a (.int .u64 0), .a (.int .u64 0), .a (.int .u64 0), .a (.int .u64 0), .a (.int .u64 0), .a (.int .u64 0), .a (.int .u64 0), .a (.int .u64 0), .a (.int .u64 0), .a (.int .u64 0), .a (.int .u64 0), .a (.int .u64 0), .a (.int .u64 0), .a (.int .u64 0), .a (.int .u64 0), .a (.int .u64 0), .a (.int .u64 0), .a (.int .u64 0), .a (.int .u64 0), .a (.int .u64 0), .a (.int .u64 0), .a (.int .u64 0), .a (.int .u64 0), .a (.int .u64 0), .a (.int .u64 0), .a (.int .u64 0), .a (.int .u64 0), .a (.int .u64 0), .a (.int .u64 0), .a (.int .u64 0), .a (.int .u64 0), .a (.int .u64 0), .a (.int .u64 0), .a (.int .u64 0), .a (.int .u64 0), .a (.int .u64 0), .a (.int .u64 0)]), .g (.keep [0, 2, 3])]) (.seq (.seq (.reg 0 [zm 0 6 0, zn 1 7 6, zk 2 8 0, .g (.keep [2, 3, 6, 7, 8])]) (.block 0 (.loop hall_mask.b0))) (.seq (.reg 0 [zL 0 25 64 3, .o 1 (.store [] 64 (.tmp 2) (.tmp 25)), .g (.keep [2])]) (.ret))))
def hall_mask.rs : List Rs := [.ce 2 true 64]
theorem hall_mask.ok : isFn Tryz.prog hall_mask.id 26 hall_mask.ann hall_mask.ir hall_mask.rs := ⟨Tryz.f54, _, Tryz.func54, rfl, rfl, by kernel_rfl, by kernel_rfl⟩
-- slices.Contains[[]int,int]
-- (*hallmark/hallmarkroom.Count).Lists
def hallmarkroom_Count_Lists.ann : List (Nat × RA) := [(0, rk [0, 1, 4]), (1, rp [0, 1, 4, 12] [(6, [1000000])]), (2, rk [0, 1, 4]), (3, rp [0, 1, 4] [(1, [1000000])]), (4, rp [0, 1, 4] [(6, [1000000])])]
def hallmarkroom_Count_Lists.b0 : C := .seq (.seq (.reg 0 [zm 0 5 4, zm 1 6 1, zn 2 7 6, za 3 8 .lss 5 7, zm 4 9 8, ym 5 9 true 10 0, .gd 6 9 true (some 11) (.callm (some 11) (.func hallmarkroom_Count_Ok.id) [(.tmp 10)]), zr 7 12 9 11 false, .g (.keep [0, 1, 4, 12])]) (.cond (.tmp 12) (.skip) (.exit 0))) (.seq (.block 1 (.seq (.reg 0 [zm 0 15 0, .o 1 (.callm (some 16) (.func hallmarkroom_Count_Add.id) [(.tmp 15), (.const (.int .i64 1))]), .g (.keep [0, 1, 4])]) (.reg 0 [zm 0 17 0, zm 1 18 1, zm 2 19 4, zx 3 20 1 18 19, zl 4 21 1 20, zn 5 22 21, .o 6 (.callm (some 23) (.func hallmarkroom_Count_Add.id) [(.tmp 17), (.tmp 22)]), .g (.keep [0, 1, 4])]))) (.reg 0 [zm 0 13 4, zd 1 14 .add 13 1, zm 2 4 14, .g (.keep [0, 1, 4])]))
def hallmarkroom_Count_Lists.ir : C := .seq (.reg 0 [zk 0 4 0, .g (.keep [0, 1, 4])]) (.block 0 (.loop hallmarkroom_Count_Lists.b0))
def hallmarkroom_Count_Lists.rs : List Rs := []
theorem hallmarkroom_Count_Lists.ok : isFn Tryz.prog hallmarkroom_Count_Lists.id 24 hallmarkroom_Count_Lists.ann hallmarkroom_Count_Lists.ir hallmarkroom_Count_Lists.rs := ⟨Tryz.f56, _, Tryz.func56, rfl, rfl, by kernel_rfl, by kernel_rfl⟩
-- hallmark/model.isName
def model_isName.ann : List (Nat × RA) := [(0, rk [0]), (1, rk [0, 7]), (2, rk [0, 7, 8, 9]), (3, rk [0, 3, 4, 7]), (4, rk [0, 3, 4, 5, 7]), (5, rk [0, 7, 43]), (6, rk [2]), (7, rk [2])]
def model_isName.b0 : C := .seq (.reg 0 [.o 0 (.nxt (some 8) (.tmp 7)), ze 1 9 8 0, .g (.keep [0, 7, 8, 9])]) (.seq (.cond (.tmp 9) (.skip) (.exit 0)) (.block 1 (.seq (.reg 0 [ze 0 10 8 1, ze 1 11 8 2, zm 2 3 10, zm 3 4 11, .g (.keep [0, 3, 4, 7])]) (.seq (.reg 0 [zm 0 12 4, .o 1 (.lt (some 13) (.bin .geq (.tmp 12) (.const (.int .i32 97)))), zm 2 14 13, ym 3 14 true 15 4, .gd 4 14 true (some 16) (.lt (some 16) (.bin .leq (.tmp 15) (.const (.int .i32 122)))), zr 5 17 14 16 false, zm 6 18 17, ym 7 18 false 19 4, .gd 8 18 false (some 20) (.lt (some 20) (.bin .geq (.tmp 19) (.const (.int .i32 65)))), ym 9 18 false 21 20, ym 10 21 true 22 4, .gd 11 21 true (some 23) (.lt (some 23) (.bin .leq (.tmp 22) (.const (.int .i32 90)))), yr 12 18 false 24 21 23 false, zp 13 25 18 true 24, zm 14 26 25, ym 15 26 false 27 4, .gd 16 26 false (some 28) (.lt (some 28) (.bin .eql (.tmp 27) (.const (.int .i32 95)))), zp 17 29 26 true 28, zm 18 5 29, .g (.keep [0, 3, 4, 5, 7])]) (.seq (.reg 0 [zm 0 30 5, zq 1 31 30, zm 2 32 31, ym 3 32 true 33 3, yd 4 32 true 34 .eql 33 0, ym 5 32 true 35 34, ym 6 35 false 36 4, .gd 7 35 false (some 37) (.lt (some 37) (.bin .lss (.tmp 36) (.const (.int .i32 48)))), yp 8 32 true 38 35 true 37, ym 9 32 true 39 38, ym 10 39 false 40 4, .gd 11 39 false (some 41) (.lt (some 41) (.bin .gtr (.tmp 40) (.const (.int .i32 57)))), yp 12 32 true 42 39 true 41, zr 13 43 32 42 false, .g (.keep [0, 7, 43])]) (.cond (.tmp 43) (.seq (.reg 0 [zb 0 2 false, .g (.keep [2])]) (.ret)) (.skip)))))))
def model_isName.ir : C := .seq (.reg 0 [zb 0 2 false, .g (.keep [0])]) (.seq (.seq (.reg 1 [zm 0 6 0, .o 1 (.rng (some 7) 0 (.tmp 6)), .g (.keep [0, 7])]) (.block 0 (.loop model_isName.b0))) (.seq (.reg 0 [zm 0 44 0, .o 1 (.lt (some 45) (.lenStr (.tmp 44))), zd 2 46 .geq 45 1, zm 3 47 46, ym 4 47 true 48 0, .gd 5 47 true (some 49) (.lt (some 49) (.lenStr (.tmp 48))), yd 6 47 true 50 .leq 49 16, zr 7 51 47 50 false, zm 8 2 51, .g (.keep [2])]) (.ret)))
def model_isName.rs : List Rs := [.sl 2]
theorem model_isName.ok : isFn Tryz.prog model_isName.id 52 model_isName.ann model_isName.ir model_isName.rs := ⟨Tryz.f57, _, Tryz.func57, rfl, rfl, by kernel_rfl, by kernel_rfl⟩
-- slices.ContainsFunc[[]hallmark/api.Var,hallmark/api.Var]
def slices_ContainsFunc_Lapi_Var_api_Var.ann : List (Nat × RA) := [(0, rk [0, 1]), (1, rk [4])]
def slices_ContainsFunc_Lapi_Var_api_Var.ir : C := .seq (.reg 0 [zb 0 4 false, .g (.keep [0, 1])]) (.seq (.reg 0 [zm 0 5 0, zm 1 6 1, .o 2 (.call (some 7) slices_IndexFunc_Lapi_Var_api_Var.id [(.tmp 5), (.tmp 6)]), zd 3 8 .geq 7 0, zm 4 4 8, .g (.keep [4])]) (.ret))
def slices_ContainsFunc_Lapi_Var_api_Var.rs : List Rs := [.sl 4]
theorem slices_ContainsFunc_Lapi_Var_api_Var.ok : isFn Tryz.prog slices_ContainsFunc_Lapi_Var_api_Var.id 9 slices_ContainsFunc_Lapi_Var_api_Var.ann slices_ContainsFunc_Lapi_Var_api_Var.ir slices_ContainsFunc_Lapi_Var_api_Var.rs := ⟨Tryz.f58, _, Tryz.func58, rfl, rfl, by kernel_rfl, by kernel_rfl⟩
-- hallmark/model.variable$1
def model_variable_1.ann : List (Nat × RA) := [(0, rk [1, 2]), (1, rk [3])]
def model_variable_1.ir : C := .seq (.reg 1 [.o 0 (.box (some 2) 0 3 (.tmp 0)), zb 1 3 false, .g (.keep [1, 2])]) (.seq (.reg 0 [zf 0 4 2 0, zl 1 5 1 4, zf 2 6 1 0, zl 3 7 1 6, za 4 8 .eql 5 7, zm 5 3 8, .g (.keep [3])]) (.ret))
def model_variable_1.rs : List Rs := [.sl 3]
theorem model_variable_1.ok : isFn Tryz.prog model_variable_1.id 9 model_variable_1.ann model_variable_1.ir model_variable_1.rs := ⟨Tryz.f59, _, Tryz.func59, rfl, rfl, by kernel_rfl, by kernel_rfl⟩
-- hallmark/model.within
def model_within.ann : List (Nat × RA) := [(0, rk [0, 1]), (1, rk [4])]
def model_within.ir : C := .seq (.reg 0 [zb 0 4 false, .g (.keep [0, 1])]) (.seq (.reg 0 [zm 0 5 0, zm 1 6 1, .o 2 (.lt (some 7) (.un .neg (.tmp 6))), za 3 8 .geq 5 7, zm 4 9 8, ym 5 9 true 10 0, ym 6 9 true 11 1, ya 7 9 true 12 .leq 10 11, zr 8 13 9 12 false, zm 9 4 13, .g (.keep [4])]) (.ret))
def model_within.rs : List Rs := [.sl 4]
theorem model_within.ok : isFn Tryz.prog model_within.id 14 model_within.ann model_within.ir model_within.rs := ⟨Tryz.f60, _, Tryz.func60, rfl, rfl, by kernel_rfl, by kernel_rfl⟩
-- hallmark/model.kinds
def model_kinds.ann : List (Nat × RA) := [(0, rk []), (1, rk [0])]
def model_kinds.ir : C := .seq (.reg 0 [.o 0 (.lt (some 0) (.mov (.const (.map none)))), .g (.keep [])]) (.seq (.reg 1 [.o 0 (.mkm (some 1) 0), .o 1 (.lt (some 2) (.build [.a (.bool false), .a (.bool false), .a (.bool false), .a (.bool false), .a (.bool false), .a (.bool false), .a (.bool false), .a (.bool false), .a (.bool false), .a (.nilFunc)] [(0, 1, (.const (.bool true))), (6, 1, (.const (.bool true))), (7, 1, (.const (.bool true))), (9, 1, (.func model_lin.id))])), .o 2 (.mup [] .i64 (.tmp 1) (.const (.int .i64 1)) (.tmp 2)), .o 3 (.lt (some 3) (.build [.a (.bool false), .a (.bool false), .a (.bool false), .a (.bool false), .a (.bool false), .a (.bool false), .a (.bool false), .a (.bool false), .a (.bool false), .a (.nilFunc)] [(4, 1, (.const (.bool true))), (5, 1, (.const (.bool true))), (6, 1, (.const (.bool true))), (9, 1, (.func model_kinds_1.id))])), .o 4 (.mup [] .i64 (.tmp 1) (.const (.int .i64 2)) (.tmp 3)), .o 5 (.lt (some 4) (.build [.a (.bool false), .a (.bool false), .a (.bool false), .a (.bool false), .a (.bool false), .a (.bool false), .a (.bool false), .a (.bool false), .a (.bool false), .a (.nilFunc)] [(1, 1, (.const (.bool true))), (9, 1, (.func model_allDiff.id))])), .o 6 (.mup [] .i64 (.tmp 1) (.const (.int .i64 3)) (.tmp 4)), .o 7 (.lt (some 5) (.build [.a (.bool false), .a (.bool false), .a (.bool false), .a (.bool false), .a (.bool false), .a (.bool false), .a (.bool false), .a (.bool false), .a (.bool false), .a (.nilFunc)] [(4, 1, (.const (.bool true))), (5, 1, (.const (.bool true))), (2, 1, (.const (.bool true))), (9, 1, (.func model_element.id))])), .o 8 (.mup [] .i64 (.tmp 1) (.const (.int .i64 4)) (.tmp 5)), .o 9 (.lt (some 6) (.build [.a (.bool false), .a (.bool false), .a (.bool false), .a (.bool false), .a (.bool false), .a (.bool false), .a (.bool false), .a (.bool false), .a (.bool false), .a (.nilFunc)] [(5, 1, (.const (.bool true))), (1, 1, (.const (.bool true))), (9, 1, (.func model_kinds_2.id))])), .o 10 (.mup [] .i64 (.tmp 1) (.const (.int .i64 5)) (.tmp 6)), .o 11 (.lt (some 7) (.build [.a (.bool false), .a (.bool false), .a (.bool false), .a (.bool false), .a (.bool false), .a (.bool false), .a (.bool false), .a (.bool false), .a (.bool false), .a (.nilFunc)] [(5, 1, (.const (.bool true))), (1, 1, (.const (.bool true))), (9, 1, (.func model_kinds_3.id))])), .o 12 (.mup [] .i64 (.tmp 1) (.const (.int .i64 6)) (.tmp 7)), .o 13 (.lt (some 8) (.build [.a (.bool false), .a (.bool false), .a (.bool false), .a (.bool false), .a (.bool false), .a (.bool false), .a (.bool false), .a (.bool false), .a (.bool false), .a (.nilFunc)] [(4, 1, (.const (.bool true))), (0, 1, (.const (.bool true))), (6, 1, (.const (.bool true))), (9, 1, (.func model_reif.id))])), .o 14 (.mup [] .i64 (.tmp 1) (.const (.int .i64 7)) (.tmp 8)), .o 15 (.lt (some 9) (.build [.a (.bool false), .a (.bool false), .a (.bool false), .a (.bool false), .a (.bool false), .a (.bool false), .a (.bool false), .a (.bool false), .a (.bool false), .a (.nilFunc)] [(1, 1, (.const (.bool true))), (3, 1, (.const (.bool true))), (9, 1, (.func model_table.id))])), .o 16 (.mup [] .i64 (.tmp 1) (.const (.int .i64 8)) (.tmp 9)), .o 17 (.lt (some 10) (.build [.a (.bool false), .a (.bool false), .a (.bool false), .a (.bool false), .a (.bool false), .a (.bool false), .a (.bool false), .a (.bool false), .a (.bool false), .a (.nilFunc)] [(1, 1, (.const (.bool true))), (6, 1, (.const (.bool true))), (7, 1, (.const (.bool true))), (8, 1, (.const (.bool true))), (9, 1, (.func model_count.id))])), .o 18 (.mup [] .i64 (.tmp 1) (.const (.int .i64 9)) (.tmp 10)), zm 19 11 1, zm 20 0 11, .g (.keep [0])]) (.ret))
def model_kinds.rs : List Rs := [.sl 0]
theorem model_kinds.ok : isFn Tryz.prog model_kinds.id 12 model_kinds.ann model_kinds.ir model_kinds.rs := ⟨Tryz.f61, _, Tryz.func61, rfl, rfl, by kernel_rfl, by kernel_rfl⟩
-- hallmark/model.terms
def model_terms.ann : List (Nat × RA) := [(0, rk [0, 1, 4, 5]), (1, rk [1, 4, 5, 8, 9, 10]), (2, rk [1, 4, 5, 8, 9, 10, 11]), (3, rk [1, 4, 5, 7, 8, 9, 10]), (4, rk [1, 4, 5, 7, 8, 9, 10]), (5, rk [1, 4, 5, 8, 9, 10]), (6, rk [1, 4, 5, 8, 9, 10]), (7, rk [4, 5])]
def model_terms.b0 : C := .seq (.reg 0 [za 0 11 .lss 10 9, .g (.keep [1, 4, 5, 8, 9, 10, 11])]) (.seq (.cond (.tmp 11) (.skip) (.exit 0)) (.seq (.block 1 (.seq (.reg 1 [zx 0 12 2 8 10, zL 1 13 2 12, .o 2 (.alloc (some 7) 0 2 [.a (.int .i64 0), .a (.int .i64 0)]), .o 3 (.store [] 2 (.tmp 7) (.tmp 13)), .g (.keep [1, 4, 5, 7, 8, 9, 10])]) (.seq (.reg 0 [zm 0 14 4, zm 1 15 14, yf 2 15 false 16 7 1, yl 3 15 false 17 1 16, yd 4 15 false 18 .lss 17 0, zp 5 19 15 true 18, zm 6 20 19, yf 7 20 false 21 7 1, yl 8 20 false 22 1 21, ym 9 20 false 23 1, ya 10 20 false 24 .geq 22 23, zp 11 25 20 true 24, zm 12 4 25, .g (.keep [1, 4, 5, 7, 8, 9, 10])]) (.reg 0 [zm 0 26 5, zm 1 27 26, yf 2 27 false 28 7 0, yl 3 27 false 29 1 28, yd 4 27 false 30 .eql 29 0, zp 5 31 27 true 30, zm 6 32 31, yf 7 32 false 33 7 0, yl 8 32 false 34 1 33, .gd 9 32 false (some 35) (.call (some 35) model_within.id [(.tmp 34), (.const (.int .i64 1000000))]), yq 10 32 false 36 35, zp 11 37 32 true 36, zm 12 5 37, .g (.keep [1, 4, 5, 8, 9, 10])])))) (.reg 0 [zd 0 38 .add 10 1, zm 1 10 38, .g (.keep [1, 4, 5, 8, 9, 10])])))
def model_terms.ir : C := .seq (.reg 0 [zb 0 4 false, zb 1 5 false, .g (.keep [0, 1, 4, 5])]) (.seq (.seq (.reg 0 [zm 0 8 0, zn 1 9 8, zk 2 10 0, .g (.keep [1, 4, 5, 8, 9, 10])]) (.block 0 (.loop model_terms.b0))) (.seq (.reg 0 [zm 0 39 4, zm 1 40 5, zm 2 4 39, zm 3 5 40, .g (.keep [4, 5])]) (.ret)))
def model_terms.rs : List Rs := [.sl 4, .sl 5]
theorem model_terms.ok : isFn Tryz.prog model_terms.id 41 model_terms.ann model_terms.ir model_terms.rs := ⟨Tryz.f62, _, Tryz.func62, rfl, rfl, by kernel_rfl, by kernel_rfl⟩
-- hallmark/model.con$1
def model_con_1.ann : List (Nat × RA) := [(0, rk [0, 1]), (1, rk [3])]
def model_con_1.ir : C := .seq (.reg 0 [zb 0 3 false, .g (.keep [0, 1])]) (.seq (.reg 0 [zm 0 4 0, zd 1 5 .lss 4 0, zm 2 6 5, ym 3 6 false 7 0, yl 4 6 false 8 1 1, ya 5 6 false 9 .geq 7 8, zp 6 10 6 true 9, zm 7 3 10, .g (.keep [3])]) (.ret))
def model_con_1.rs : List Rs := [.sl 3]
theorem model_con_1.ok : isFn Tryz.prog model_con_1.id 11 model_con_1.ann model_con_1.ir model_con_1.rs := ⟨Tryz.f63, _, Tryz.func63, rfl, rfl, by kernel_rfl, by kernel_rfl⟩
-- hallmark/model.field
def model_field.ann : List (Nat × RA) := [(0, rk [2, 3]), (1, rk [2, 3, 5]), (2, rk [2, 3, 5, 18]), (3, rk [2, 3, 5]), (4, rk [2, 3, 5, 21]), (5, rk [2, 3, 5]), (6, rk [2, 3, 5, 24]), (7, rk [2, 3, 5]), (8, rk [2, 3, 5, 27]), (9, rk [2, 3, 5]), (10, rk [2, 3, 5, 30]), (11, rk [2, 3, 5]), (12, rk [4])]
def model_field.ir : C := .seq (.reg 2 [.o 0 (.box (some 2) 0 10 (.tmp 0)), .o 1 (.box (some 3) 1 10 (.tmp 1)), zb 2 4 false, .g (.keep [2, 3])]) (.seq (.reg 1 [zf 0 6 2 1, zl 1 7 1 6, zf 2 8 2 3, zl 3 9 1 8, zf 4 10 2 4, zl 5 11 1 10, zf 6 12 2 5, zl 7 13 1 12, zf 8 14 2 6, zl 9 15 1 14, .o 10 (.lt (some 16) (.build [.a (.int .i64 0), .a (.int .i64 0), .a (.int .i64 0), .a (.int .i64 0), .a (.int .i64 0)] [(0, 1, (.tmp 7)), (1, 1, (.tmp 9)), (2, 1, (.tmp 11)), (3, 1, (.tmp 13)), (4, 1, (.tmp 15))])), .o 11 (.alloc (some 5) 0 5 [.a (.int .i64 0), .a (.int .i64 0), .a (.int .i64 0), .a (.int .i64 0), .a (.int .i64 0)]), .o 12 (.store [] 5 (.tmp 5) (.tmp 16)), .g (.keep [2, 3, 5])]) (.seq (.seq (.reg 0 [zf 0 17 3 7, zl 1 18 1 17, .g (.keep [2, 3, 5, 18])]) (.cond (.tmp 18) (.reg 0 [zf 0 19 5 0, .o 1 (.store [] 1 (.tmp 19) (.const (.int .i64 0))), .g (.keep [2, 3, 5])]) (.skip))) (.seq (.seq (.reg 0 [zf 0 20 3 8, zl 1 21 1 20, .g (.keep [2, 3, 5, 21])]) (.cond (.tmp 21) (.reg 0 [zf 0 22 5 2, .o 1 (.store [] 1 (.tmp 22) (.const (.int .i64 0))), .g (.keep [2, 3, 5])]) (.skip))) (.seq (.seq (.reg 0 [zf 0 23 3 6, zl 1 24 1 23, .g (.keep [2, 3, 5, 24])]) (.cond (.tmp 24) (.reg 0 [zf 0 25 5 1, .o 1 (.store [] 1 (.tmp 25) (.const (.int .i64 0))), .g (.keep [2, 3, 5])]) (.skip))) (.seq (.seq (.reg 0 [zf 0 26 3 4, zl 1 27 1 26, .g (.keep [2, 3, 5, 27])]) (.cond (.tmp 27) (.reg 0 [zf 0 28 5 3, .o 1 (.store [] 1 (.tmp 28) (.const (.int .i64 0))), .g (.keep [2, 3, 5])]) (.skip))) (.seq (.seq (.reg 0 [zf 0 29 3 5, zl 1 30 1 29, .g (.keep [2, 3, 5, 30])]) (.cond (.tmp 30) (.reg 0 [zf 0 31 5 4, .o 1 (.store [] 1 (.tmp 31) (.const (.int .i64 0))), .g (.keep [2, 3, 5])]) (.skip))) (.seq (.reg 0 [zL 0 32 5 5, .o 1 (.lt (some 33) (.build [.a (.int .i64 0), .a (.int .i64 0), .a (.int .i64 0), .a (.int .i64 0), .a (.int .i64 0)] [])), .o 2 (.lt (some 34) (.eqD true [(0, 0), (1, 0), (2, 0), (3, 0), (4, 0)] (.tmp 32) (.tmp 33))), zm 3 35 34, yf 4 35 false 36 3 0, yl 5 35 false 37 1 36, yq 6 35 false 38 37, ym 7 35 false 39 38, yf 8 39 true 40 2 2, yl 9 39 true 41 1 40, yn 10 39 true 42 41, yd 11 39 true 43 .gtr 42 0, yr 12 35 false 44 39 43 false, zp 13 45 35 true 44, zm 14 46 45, yf 15 46 false 47 3 1, yl 16 46 false 48 1 47, yq 17 46 false 49 48, ym 18 46 false 50 49, yf 19 50 true 51 2 7, yl 20 50 true 52 1 51, yn 21 50 true 53 52, yd 22 50 true 54 .gtr 53 0, yr 23 46 false 55 50 54 false, zp 24 56 46 true 55, zm 25 57 56, yf 26 57 false 58 3 2, yl 27 57 false 59 1 58, yq 28 57 false 60 59, ym 29 57 false 61 60, yf 30 61 true 62 2 8, yl 31 61 true 63 1 62, yn 32 61 true 64 63, yd 33 61 true 65 .gtr 64 0, yr 34 57 false 66 61 65 false, zp 35 67 57 true 66, zm 36 68 67, yf 37 68 false 69 3 3, yl 38 68 false 70 1 69, yq 39 68 false 71 70, ym 40 68 false 72 71, yf 41 72 true 73 2 9, yl 42 72 true 74 1 73, yn 43 72 true 75 74, yd 44 72 true 76 .gtr 75 0, yr 45 68 false 77 72 76 false, zp 46 78 68 true 77, zm 47 4 78, .g (.keep [4])]) (.ret))))))))
def model_field.rs : List Rs := [.sl 4]
theorem model_field.ok : isFn Tryz.prog model_field.id 79 model_field.ann model_field.ir model_field.rs := ⟨Tryz.f64, _, Tryz.func64, rfl, rfl, by kernel_rfl, by kernel_rfl⟩
-- hallmark/model.counts
def model_counts.ann : List (Nat × RA) := [(0, rk [0, 1]), (1, rk [4])]
def model_counts.ir : C := .seq (.reg 0 [zb 0 4 false, .g (.keep [0, 1])]) (.seq (.reg 0 [zm 0 5 0, zq 1 6 5, zm 2 7 6, ym 3 7 false 8 1, yd 4 7 false 9 .geq 8 1, ym 5 7 false 10 9, ym 6 10 true 11 1, yd 7 10 true 12 .leq 11 64, yr 8 7 false 13 10 12 false, zp 9 14 7 true 13, zm 10 4 14, .g (.keep [4])]) (.ret))
def model_counts.rs : List Rs := [.sl 4]
theorem model_counts.ok : isFn Tryz.prog model_counts.id 15 model_counts.ann model_counts.ir model_counts.rs := ⟨Tryz.f65, _, Tryz.func65, rfl, rfl, by kernel_rfl, by kernel_rfl⟩
-- hallmark/model.wide
def model_wide.ann : List (Nat × RA) := [(0, rk [2, 3]), (1, rp [4] [(18, [1000001])])]
def model_wide.ir : C := .seq (.reg 2 [.o 0 (.box (some 2) 0 10 (.tmp 0)), .o 1 (.box (some 3) 1 10 (.tmp 1)), zb 2 4 false, .g (.keep [2, 3])]) (.seq (.reg 0 [zf 0 5 3 3, zl 1 6 1 5, zm 2 7 6, yf 3 7 true 8 2 7, yl 4 7 true 9 1 8, yn 5 7 true 10 9, yd 6 7 true 11 .gtr 10 8, ym 7 7 true 12 11, yf 8 12 false 13 2 9, yl 9 12 false 14 1 13, yn 10 12 false 15 14, .gd 11 12 false (some 16) (.call (some 16) model_counts.id [(.const (.bool true)), (.tmp 15)]), yq 12 12 false 17 16, yp 13 7 true 18 12 true 17, ym 14 7 true 19 18, yf 15 19 false 20 2 9, yl 16 19 false 21 1 20, .gd 17 19 false (some 22) (.lt (some 22) (.mkfn (.func model_wide_1.id) [] [(.tmp 2)])), .gd 18 19 false (some 23) (.callb (some 23) (.func slices_ContainsFunc_LLint_Lint.id) [(.tmp 21), (.tmp 22)]), yp 19 7 true 24 19 true 23, zr 20 25 7 24 false, zm 21 4 25, .g (.keep [4])]) (.ret))
def model_wide.rs : List Rs := [.sl 4]
theorem model_wide.ok : isFn Tryz.prog model_wide.id 26 model_wide.ann model_wide.ir model_wide.rs := ⟨Tryz.f66, _, Tryz.func66, rfl, rfl, by kernel_rfl, by kernel_rfl⟩
-- slices.ContainsFunc[[]int,int]
def slices_ContainsFunc_Lint_int.ann : List (Nat × RA) := [(0, rk [0, 1]), (1, rk [4])]
def slices_ContainsFunc_Lint_int.ir : C := .seq (.reg 0 [zb 0 4 false, .g (.keep [0, 1])]) (.seq (.reg 0 [zm 0 5 0, zm 1 6 1, .o 2 (.call (some 7) slices_IndexFunc_Lint_int.id [(.tmp 5), (.tmp 6)]), zd 3 8 .geq 7 0, zm 4 4 8, .g (.keep [4])]) (.ret))
def slices_ContainsFunc_Lint_int.rs : List Rs := [.sl 4]
theorem slices_ContainsFunc_Lint_int.ok : isFn Tryz.prog slices_ContainsFunc_Lint_int.id 9 slices_ContainsFunc_Lint_int.ann slices_ContainsFunc_Lint_int.ir slices_ContainsFunc_Lint_int.rs := ⟨Tryz.f67, _, Tryz.func67, rfl, rfl, by kernel_rfl, by kernel_rfl⟩
-- hallmark/model.great
def model_great.ann : List (Nat × RA) := [(0, rk [0]), (1, rk [2])]
def model_great.ir : C := .seq (.reg 0 [zb 0 2 false, .g (.keep [0])]) (.seq (.reg 0 [zm 0 3 0, .o 1 (.call (some 4) slices_ContainsFunc_Lint_int.id [(.tmp 3), (.func model_great_1.id)]), zm 2 2 4, .g (.keep [2])]) (.ret))
def model_great.rs : List Rs := [.sl 2]
theorem model_great.ok : isFn Tryz.prog model_great.id 5 model_great.ann model_great.ir model_great.rs := ⟨Tryz.f68, _, Tryz.func68, rfl, rfl, by kernel_rfl, by kernel_rfl⟩
-- slices.ContainsFunc[[][]int,[]int]
def slices_ContainsFunc_LLint_Lint.ann : List (Nat × RA) := [(0, rk [0, 1]), (1, rk [4])]
def slices_ContainsFunc_LLint_Lint.ir : C := .seq (.reg 0 [zb 0 4 false, .g (.keep [0, 1])]) (.seq (.reg 0 [zm 0 5 0, zm 1 6 1, .o 2 (.call (some 7) slices_IndexFunc_LLint_Lint.id [(.tmp 5), (.tmp 6)]), zd 3 8 .geq 7 0, zm 4 4 8, .g (.keep [4])]) (.ret))
def slices_ContainsFunc_LLint_Lint.rs : List Rs := [.sl 4]
theorem slices_ContainsFunc_LLint_Lint.ok : isFn Tryz.prog slices_ContainsFunc_LLint_Lint.id 9 slices_ContainsFunc_LLint_Lint.ann slices_ContainsFunc_LLint_Lint.ir slices_ContainsFunc_LLint_Lint.rs := ⟨Tryz.f69, _, Tryz.func69, rfl, rfl, by kernel_rfl, by kernel_rfl⟩
-- slices.Index[[]int,int]
-- slices.IndexFunc[[]hallmark/api.Var,hallmark/api.Var]
def slices_IndexFunc_Lapi_Var_api_Var.ann : List (Nat × RA) := [(0, rk [0, 1]), (1, rk [0, 1, 7, 8]), (2, rk [0, 1, 7, 8, 9]), (3, rk [0, 1, 5, 7, 8]), (4, rk [0, 1, 5, 7, 8, 16]), (5, rk [4]), (6, rk [0, 1, 7, 8]), (7, rk [4])]
def slices_IndexFunc_Lapi_Var_api_Var.b0 : C := .seq (.reg 0 [za 0 9 .lss 8 7, .g (.keep [0, 1, 7, 8, 9])]) (.seq (.cond (.tmp 9) (.skip) (.exit 0)) (.seq (.block 1 (.seq (.reg 0 [zm 0 10 8, zm 1 5 10, .g (.keep [0, 1, 5, 7, 8])]) (.seq (.reg 0 [zm 0 11 1, zm 1 12 0, zm 2 13 5, zx 3 14 3 12 13, zL 4 15 3 14, .o 5 (.callv (some 16) (.tmp 11) [(.tmp 15)]), .g (.keep [0, 1, 5, 7, 8, 16])]) (.cond (.tmp 16) (.seq (.reg 0 [zm 0 17 5, zm 1 4 17, .g (.keep [4])]) (.ret)) (.skip))))) (.reg 0 [zd 0 18 .add 8 1, zm 1 8 18, .g (.keep [0, 1, 7, 8])])))
def slices_IndexFunc_Lapi_Var_api_Var.ir : C := .seq (.reg 0 [zk 0 4 0, .g (.keep [0, 1])]) (.seq (.seq (.reg 0 [zm 0 6 0, zn 1 7 6, zk 2 8 0, .g (.keep [0, 1, 7, 8])]) (.block 0 (.loop slices_IndexFunc_Lapi_Var_api_Var.b0))) (.seq (.reg 0 [zk 0 4 (-1), .g (.keep [4])]) (.ret)))
def slices_IndexFunc_Lapi_Var_api_Var.rs : List Rs := [.sl 4]
theorem slices_IndexFunc_Lapi_Var_api_Var.ok : isFn Tryz.prog slices_IndexFunc_Lapi_Var_api_Var.id 19 slices_IndexFunc_Lapi_Var_api_Var.ann slices_IndexFunc_Lapi_Var_api_Var.ir slices_IndexFunc_Lapi_Var_api_Var.rs := ⟨Tryz.f73, _, Tryz.func73, rfl, rfl, by kernel_rfl, by kernel_rfl⟩
-- hallmark/model.lin
-- hallmark/model.kinds$1
-- hallmark/model.allDiff
-- hallmark/model.element
-- hallmark/model.kinds$2
-- slices.Max[[]int,int]
-- hallmark/model.each
-- hallmark/model.kinds$3
-- slices.Min[[]int,int]
-- hallmark/model.reif
-- hallmark/model.table
-- hallmark/model.count
-- hallmark/model.wide$1
def model_wide_1.ann : List (Nat × RA) := [(0, rk [0, 1]), (1, rk [3])]
def model_wide_1.ir : C := .seq (.reg 0 [zb 0 3 false, .g (.keep [0, 1])]) (.seq (.reg 0 [zm 0 4 0, zn 1 5 4, zf 2 6 1 7, zl 3 7 1 6, zn 4 8 7, za 5 9 .neq 5 8, zm 6 3 9, .g (.keep [3])]) (.ret))
def model_wide_1.rs : List Rs := [.sl 3]
theorem model_wide_1.ok : isFn Tryz.prog model_wide_1.id 10 model_wide_1.ann model_wide_1.ir model_wide_1.rs := ⟨Tryz.f86, _, Tryz.func86, rfl, rfl, by kernel_rfl, by kernel_rfl⟩
-- slices.IndexFunc[[]int,int]
def slices_IndexFunc_Lint_int.ann : List (Nat × RA) := [(0, rk [0, 1]), (1, rk [0, 1, 7, 8]), (2, rk [0, 1, 7, 8, 9]), (3, rk [0, 1, 5, 7, 8]), (4, rk [0, 1, 5, 7, 8, 16]), (5, rk [4]), (6, rk [0, 1, 7, 8]), (7, rk [4])]
def slices_IndexFunc_Lint_int.b0 : C := .seq (.reg 0 [za 0 9 .lss 8 7, .g (.keep [0, 1, 7, 8, 9])]) (.seq (.cond (.tmp 9) (.skip) (.exit 0)) (.seq (.block 1 (.seq (.reg 0 [zm 0 10 8, zm 1 5 10, .g (.keep [0, 1, 5, 7, 8])]) (.seq (.reg 0 [zm 0 11 1, zm 1 12 0, zm 2 13 5, zx 3 14 1 12 13, zl 4 15 1 14, .o 5 (.callv (some 16) (.tmp 11) [(.tmp 15)]), .g (.keep [0, 1, 5, 7, 8, 16])]) (.cond (.tmp 16) (.seq (.reg 0 [zm 0 17 5, zm 1 4 17, .g (.keep [4])]) (.ret)) (.skip))))) (.reg 0 [zd 0 18 .add 8 1, zm 1 8 18, .g (.keep [0, 1, 7, 8])])))
def slices_IndexFunc_Lint_int.ir : C := .seq (.reg 0 [zk 0 4 0, .g (.keep [0, 1])]) (.seq (.seq (.reg 0 [zm 0 6 0, zn 1 7 6, zk 2 8 0, .g (.keep [0, 1, 7, 8])]) (.block 0 (.loop slices_IndexFunc_Lint_int.b0))) (.seq (.reg 0 [zk 0 4 (-1), .g (.keep [4])]) (.ret)))
def slices_IndexFunc_Lint_int.rs : List Rs := [.sl 4]
theorem slices_IndexFunc_Lint_int.ok : isFn Tryz.prog slices_IndexFunc_Lint_int.id 19 slices_IndexFunc_Lint_int.ann slices_IndexFunc_Lint_int.ir slices_IndexFunc_Lint_int.rs := ⟨Tryz.f87, _, Tryz.func87, rfl, rfl, by kernel_rfl, by kernel_rfl⟩
-- hallmark/model.great$1
def model_great_1.ann : List (Nat × RA) := [(0, rk [0]), (1, rk [2])]
def model_great_1.ir : C := .seq (.reg 0 [zb 0 2 false, .g (.keep [0])]) (.seq (.reg 0 [zm 0 3 0, .o 1 (.call (some 4) model_within.id [(.tmp 3), (.const (.int .i64 1000000000))]), zq 2 5 4, zm 3 2 5, .g (.keep [2])]) (.ret))
def model_great_1.rs : List Rs := [.sl 2]
theorem model_great_1.ok : isFn Tryz.prog model_great_1.id 6 model_great_1.ann model_great_1.ir model_great_1.rs := ⟨Tryz.f88, _, Tryz.func88, rfl, rfl, by kernel_rfl, by kernel_rfl⟩
-- slices.IndexFunc[[][]int,[]int]
def slices_IndexFunc_LLint_Lint.ann : List (Nat × RA) := [(0, rk [0, 1]), (1, rk [0, 1, 7, 8]), (2, rk [0, 1, 7, 8, 9]), (3, rk [0, 1, 5, 7, 8]), (4, rk [0, 1, 5, 7, 8, 16]), (5, rk [4]), (6, rk [0, 1, 7, 8]), (7, rk [4])]
def slices_IndexFunc_LLint_Lint.b0 : C := .seq (.reg 0 [za 0 9 .lss 8 7, .g (.keep [0, 1, 7, 8, 9])]) (.seq (.cond (.tmp 9) (.skip) (.exit 0)) (.seq (.block 1 (.seq (.reg 0 [zm 0 10 8, zm 1 5 10, .g (.keep [0, 1, 5, 7, 8])]) (.seq (.reg 0 [zm 0 11 1, zm 1 12 0, zm 2 13 5, zx 3 14 1 12 13, zl 4 15 1 14, .o 5 (.callv (some 16) (.tmp 11) [(.tmp 15)]), .g (.keep [0, 1, 5, 7, 8, 16])]) (.cond (.tmp 16) (.seq (.reg 0 [zm 0 17 5, zm 1 4 17, .g (.keep [4])]) (.ret)) (.skip))))) (.reg 0 [zd 0 18 .add 8 1, zm 1 8 18, .g (.keep [0, 1, 7, 8])])))
def slices_IndexFunc_LLint_Lint.ir : C := .seq (.reg 0 [zk 0 4 0, .g (.keep [0, 1])]) (.seq (.seq (.reg 0 [zm 0 6 0, zn 1 7 6, zk 2 8 0, .g (.keep [0, 1, 7, 8])]) (.block 0 (.loop slices_IndexFunc_LLint_Lint.b0))) (.seq (.reg 0 [zk 0 4 (-1), .g (.keep [4])]) (.ret)))
def slices_IndexFunc_LLint_Lint.rs : List Rs := [.sl 4]
theorem slices_IndexFunc_LLint_Lint.ok : isFn Tryz.prog slices_IndexFunc_LLint_Lint.id 19 slices_IndexFunc_LLint_Lint.ann slices_IndexFunc_LLint_Lint.ir slices_IndexFunc_LLint_Lint.rs := ⟨Tryz.f89, _, Tryz.func89, rfl, rfl, by kernel_rfl, by kernel_rfl⟩
-- hallmark/model.is
-- hallmark/model.sum
-- hallmark/model.table$1
-- slices.Equal[[]int,int]
end Go.Abs.G

/- What the row's reading tells, as abstract values. -/
namespace Go.Abs
set_option linter.unusedVariables false

def βz : Nat → Hd := fun _ => ⟨0, 0, 0, 0, 0, false, 0, noSub⟩
def cz (w : World) : Cx := cx w.heap [] βz (fun _ => False)

theorem cz_own (w : World) (b : Nat) : ¬ (cz w).own b := by
  rintro (⟨i, e⟩ | e)
  · simp [ownsB] at e
  · exact e

theorem cz_only {w : World} {v : Value} {x : V} (h : RV (cz w) v x) : RV ((cz w).only []) v x :=
  h.mono ⟨Nat.le_refl _, fun _ _ hn => ⟨rfl, hn⟩, fun i hl => by obtain ⟨o, ho, _⟩ := hl; simp at ho, fun _ _ _ e => .inl e⟩

theorem cz_hok (w : World) : HOK w.heap [] βz (fun _ => False) :=
  ⟨fun id o h => by simp at h, fun id id' b h => by simp [ownsB] at h, fun b h => h.elim⟩

/-- What reads as a value of type t is some x's. -/
def Rd (P : Program) (t : TypeId) (n : Nat) {α : Type} (f : α → List V) (ok : α → Prop) : Prop :=
  P.cellsOf t = n ∧ ∀ (H : Type) (enc : TypeId × Value → H) (w : World) (fuel : Nat) (cs : List Value) (d : DataW H) (ps : List MemPlace), DataW.trod enc P w 0 (fun _ => true) true fuel t cs = some (d, ps) → (∀ q ∈ DataW.weights P t d, q ≤ reachBytes) →
    ∃ x, ok x ∧ (f x).length = n ∧ cs.length = n ∧ ∀ (i : Nat) (v : Value) (y : V), cs[i]? = some v → (f x)[i]? = some y → v.oneCell' = true ∧ RV (cz w) v y

section
variable {P : Program} {t : TypeId}

theorem one_get {v0 : Value} {y0 : V} {w : World} (h1 : v0.oneCell' = true) (h2 : RV (cz w) v0 y0) : ∀ (i : Nat) (v : Value) (y : V), [v0][i]? = some v → [y0][i]? = some y → v.oneCell' = true ∧ RV (cz w) v y := by
  intro i v y a b
  cases i with
  | zero => simp at a b; subst a; subst b; exact ⟨h1, h2⟩
  | succ i => simp at a

theorem Rd.int {k : IntKind} (hu : P.underlying t = some (.int k)) (hc : P.cellsOf t = 1) : Rd P t 1 (fun n : Int => [.a (.int k n)]) (fun n => (Lit.int k n).wf = true) := by
  refine ⟨hc, fun H enc w fuel cs d ps h hwt => ?_⟩
  cases fuel with
  | zero => simp [DataW.trod] at h
  | succ fuel =>
    unfold DataW.trod at h
    rw [hu] at h
    rcases cs with _ | ⟨v, _ | ⟨v2, cs⟩⟩
    · cases h
    · cases v <;> first | cases h | skip
      next k' n =>
      simp only at h
      split at h
      · next hk =>
        obtain ⟨rfl, hk⟩ := hk
        exact ⟨n, hk, rfl, rfl, one_get rfl .a⟩
      · cases h
    · simp at h

theorem Rd.bool (hu : P.underlying t = some .bool) (hc : P.cellsOf t = 1) : Rd P t 1 (fun b : Bool => [.a (.bool b)]) (fun _ => True) := by
  refine ⟨hc, fun H enc w fuel cs d ps h hwt => ?_⟩
  cases fuel with
  | zero => simp [DataW.trod] at h
  | succ fuel =>
    unfold DataW.trod at h
    rw [hu] at h
    rcases cs with _ | ⟨v, _ | ⟨v2, cs⟩⟩
    · cases h
    · cases v <;> first | cases h | skip
      next b => exact ⟨b, trivial, rfl, rfl, one_get rfl .a⟩
    · simp at h

theorem Rd.str (hu : P.underlying t = some .string) (hc : P.cellsOf t = 1) : Rd P t 1 (fun s : ByteArray => [.a (.string s)]) (fun s => s.size ≤ maxLen ∧ s.size ≤ reachBytes) := by
  refine ⟨hc, fun H enc w fuel cs d ps h hwt => ?_⟩
  cases fuel with
  | zero => simp [DataW.trod] at h
  | succ fuel =>
    unfold DataW.trod at h
    rw [hu] at h
    rcases cs with _ | ⟨v, _ | ⟨v2, cs⟩⟩
    · cases h
    · cases v <;> first | cases h | skip
      next s =>
      simp only at h
      split at h
      · next hs =>
        injection h with h
        injection h with h1 h2
        subst h1
        exact ⟨s, ⟨hs, by have := hwt s.data.toList.length (by simp [DataW.weights]); simpa using this⟩, rfl, rfl, one_get rfl .a⟩
      · cases h
    · simp at h

theorem cells?_get {w : World} {a : Addr} {n : Nat} {cs : List Value} (h : w.cells? 0 a n = some cs) : cs.length = n ∧ ∀ (i : Nat) (v : Value), cs[i]? = some v → look w.heap a.block (a.off + i) = some v ∧ (i = 0 → a.spot = none) := by
  unfold World.cells? at h
  rw [if_pos (Nat.zero_le _)] at h
  obtain ⟨h1, h2⟩ := mapM_some h
  have hl : cs.length = n := by rw [h1]; simp
  refine ⟨hl, fun i v hv => ?_⟩
  have hi : i < n := by rw [← hl]; exact lt_of_get hv
  obtain ⟨y, hy, hc⟩ := h2 i i (List.getElem?_range hi)
  rw [hv] at hy; injection hy with hy; subst hy
  have hadd : (a.add i).block = a.block ∧ ((a.add i).spot = none → (i = 0 → a.spot = none) ∧ (a.add i).off = a.off + i) := by
    unfold Addr.add
    split
    · next e => subst e; exact ⟨rfl, fun h => ⟨fun _ => h, by simp⟩⟩
    · next e => exact ⟨rfl, fun h => ⟨fun e' => (e e').elim, rfl⟩⟩
  unfold World.cell? at hc
  rw [hadd.1] at hc
  split at hc
  · next c _ _ hb =>
    split at hc
    · cases hc
    · next hs =>
      have hs : (a.add i).spot = none := by simpa using hs
      obtain ⟨g1, g2⟩ := hadd.2 hs
      rw [g2] at hc
      exact ⟨by unfold look; rw [hb]; exact hc, g1⟩
  · cases hc

theorem all_choice {α β : Type} {R : Nat → α → β → Prop} : ∀ (l : List α) (k : Nat), (∀ (i : Nat) (x : α), l[i]? = some x → ∃ y, R (k + i) x y) → ∃ r : List β, r.length = l.length ∧ ∀ (i : Nat) (x : α) (y : β), l[i]? = some x → r[i]? = some y → R (k + i) x y := by
  intro l
  induction l with
  | nil => intro k _; exact ⟨[], rfl, fun i x y h => by simp at h⟩
  | cons a l ih =>
    intro k h
    obtain ⟨y, hy⟩ := h 0 a rfl
    obtain ⟨r, h1, h2⟩ := ih (k + 1) fun i x hx => by
      obtain ⟨y, hy⟩ := h (i + 1) x hx
      exact ⟨y, by rw [show k + 1 + i = k + (i + 1) from by omega]; exact hy⟩
    refine ⟨y :: r, by simp [h1], fun i x z hx hz => ?_⟩
    cases i with
    | zero => simp at hx hz; subst hx; subst hz; exact hy
    | succ i =>
      have := h2 i x z (by simpa using hx) (by simpa using hz)
      rw [show k + (i + 1) = k + 1 + i from by omega]; exact this

theorem weightsAll_mem {H : Type} {P : Program} {e : TypeId} {l : List (DataW H)} {d : DataW H} {q : Nat} (hd : d ∈ l) (hq : q ∈ DataW.weights P e d) : q ∈ DataW.weightsAll P e l := by
  induction l with
  | nil => cases hd
  | cons a l ih =>
    simp only [DataW.weightsAll, List.mem_append]
    rcases List.mem_cons.1 hd with rfl | hd
    · exact .inl hq
    · exact .inr (ih hd)

theorem Rd.slice {e : TypeId} {n : Nat} {α : Type} {f : α → List V} {ok : α → Prop} (hu : P.underlying t = some (.slice e)) (hc : P.cellsOf t = 1) (hn : 0 < n) (he : Rd P e n f ok) :
    Rd P t 1 (fun l : List α => [.view n (l.map f)]) (fun l => l.length ≤ maxLen ∧ l.length * P.bytesOf e ≤ reachBytes ∧ ∀ x ∈ l, ok x) := by
  refine ⟨hc, fun H enc w fuel cs d ps h hwt => ?_⟩
  obtain ⟨hen, hel⟩ := he
  cases fuel with
  | zero => simp [DataW.trod] at h
  | succ fuel =>
    unfold DataW.trod at h
    rw [hu] at h
    rcases cs with _ | ⟨v, _ | ⟨v2, cs⟩⟩
    · cases h
    · cases v <;> first | cases h | skip
      next base len cap =>
      cases base with
      | none =>
        cases len <;> cases cap <;> first | cases h | skip
        exact ⟨[], ⟨Nat.zero_le _, by simp, by simp⟩, rfl, rfl, one_get rfl .nilv⟩
      | some a =>
        simp only at h
        split at h
        · next hg =>
          obtain ⟨_, hlc, hcm⟩ := hg
          simp only [Option.bind_eq_some_iff, Option.map_eq_some_iff] at h
          obtain ⟨elems, h1, rest, _, hd⟩ := h
          injection hd with hd1 hd2
          subst hd1
          simp only [DataW.weights, hu, List.mem_cons, List.mem_append] at hwt
          obtain ⟨g1, g2⟩ := mapM_some h1
          have hlen : elems.length = len := by rw [g1]; simp
          have hall : ∀ (i : Nat) (x : DataW H × List MemPlace), elems[i]? = some x → ∃ y : α, ok y ∧ (f y).length = n ∧ ∀ (j : Nat) (z : V), (f y)[j]? = some z → ∃ v, look w.heap a.block (a.off + (0 + i) * n + j) = some v ∧ (0 + i = 0 → j = 0 → a.spot = none) ∧ v.oneCell' = true ∧ RV (cz w) v z := by
            intro i x hx
            have hi : i < len := by rw [← hlen]; exact lt_of_get hx
            obtain ⟨y, hy, hc⟩ := g2 i i (List.getElem?_range hi)
            rw [hx] at hy; injection hy with hy; subst hy
            rw [Option.bind_eq_some_iff] at hc
            obtain ⟨ci, hci, htr⟩ := hc
            rw [hen] at hci
            obtain ⟨c1, c2⟩ := cells?_get hci
            obtain ⟨y, k1, k2, k3, k4⟩ := hel H enc w fuel ci _ _ htr fun q hq => hwt q (.inr (.inl (weightsAll_mem (List.mem_map_of_mem (List.mem_of_getElem? hx)) hq)))
            refine ⟨y, k1, k2, fun j z hz => ?_⟩
            have hj : j < ci.length := by rw [k3, ← k2]; exact lt_of_get hz
            have hv := List.getElem?_eq_getElem hj
            obtain ⟨m1, m2⟩ := k4 j _ z hv hz
            obtain ⟨q1, q2⟩ := c2 j _ hv
            have hadd : (a.add (i * n)).block = a.block ∧ (a.add (i * n)).off = a.off + i * n := by
              unfold Addr.add
              split
              · next e => rw [e]; exact ⟨rfl, by simp⟩
              · exact ⟨rfl, rfl⟩
            rw [hadd.1, hadd.2] at q1
            refine ⟨_, by rw [Nat.zero_add]; exact q1, fun e0 e1 => ?_, m1, m2⟩
            have := q2 e1
            rw [show i * n = 0 from by rw [show i = 0 from by omega, Nat.zero_mul]] at this
            unfold Addr.add at this
            simpa using this
          obtain ⟨xs, x1, x2⟩ := all_choice (R := fun i x y => ok y ∧ (f y).length = n ∧ ∀ (j : Nat) (z : V), (f y)[j]? = some z → ∃ v, look w.heap a.block (a.off + i * n + j) = some v ∧ (i = 0 → j = 0 → a.spot = none) ∧ v.oneCell' = true ∧ RV (cz w) v z) elems 0 hall
          have hx : ∀ (i : Nat) (y : α), xs[i]? = some y → ok y ∧ (f y).length = n ∧ ∀ (j : Nat) (z : V), (f y)[j]? = some z → ∃ v, look w.heap a.block (a.off + i * n + j) = some v ∧ (i = 0 → j = 0 → a.spot = none) ∧ v.oneCell' = true ∧ RV (cz w) v z := by
            intro i y hy
            have hi : i < elems.length := by rw [← x1]; exact lt_of_get hy
            have := x2 i _ y (List.getElem?_eq_getElem hi) hy
            rw [Nat.zero_add] at this; exact this
          refine ⟨xs, ⟨by omega, ?_, fun y hy => ?_⟩, rfl, rfl, one_get rfl ?_⟩
          · have h1 := hwt _ (.inl rfl)
            refine Nat.le_trans (Nat.mul_le_mul_right _ ?_) h1
            simp [x1]
          · obtain ⟨i, hi⟩ := List.getElem?_of_mem hy
            exact (hx i y hi).1
          · have hrow : ∀ (i : Nat) (row : List V), (xs.map f)[i]? = some row → row.length = n ∧ ∀ (j : Nat) (z : V), row[j]? = some z → ∃ v, look w.heap a.block (a.off + i * n + j) = some v ∧ (i = 0 → j = 0 → a.spot = none) ∧ v.oneCell' = true ∧ RV (cz w) v z := by
              intro i row hi
              rw [List.getElem?_map, Option.map_eq_some_iff] at hi
              obtain ⟨y, hy, rfl⟩ := hi
              exact (hx i y hy).2
            have hl2 : len = (xs.map f).length := by simp [x1, hlen]
            rw [hl2]
            refine .view (fun i j => (look w.heap a.block (a.off + i * n + j)).getD undef) (fun hne => ?_) (by rw [← hl2]; exact hlc) (fun i row hi => (hrow i row hi).1) (fun i row hi j z hz => ?_) fun i row hi j z hz => ?_
            · have h0 : ∃ row, (xs.map f)[0]? = some row := by
                cases hq : xs.map f with
                | nil => exact (hne hq).elim
                | cons r l => exact ⟨r, rfl⟩
              obtain ⟨row, h0⟩ := h0
              obtain ⟨r1, r2⟩ := hrow 0 row h0
              obtain ⟨v, l1, l2, _⟩ := r2 0 _ (List.getElem?_eq_getElem (by omega))
              refine ⟨cz_own w _, ?_, l2 rfl rfl⟩
              unfold look at l1
              split at l1
              · next hb => exact hp_lt hb
              · cases l1
            · obtain ⟨v, l1, _, l3, _⟩ := (hrow i row hi).2 j z hz
              refine ⟨by show look w.heap _ _ = _; rw [l1]; rfl, by rw [l1]; exact l3⟩
            · obtain ⟨v, l1, _, _, l4⟩ := (hrow i row hi).2 j z hz
              rw [l1]; exact cz_only l4
        · cases h
    · simp at h

end
end Go.Abs

/- What the row's reading tells: structs, arguments. -/
namespace Go.Abs
set_option linter.unusedVariables false

/-- The same of a struct's fields from cell k on. -/
def RdF (P : Program) (fs : List Field) (k : Nat) (n : Nat) {α : Type} (f : α → List V) (ok : α → Prop) : Prop :=
  ∀ (H : Type) (enc : TypeId × Value → H) (w : World) (fuel : Nat) (cs : List Value) (xs : List (DataW H × List MemPlace)), fs.mapM (fun fd => DataW.trod enc P w 0 (fun _ => true) true fuel fd.type ((cs.drop fd.offset).take (P.cellsOf fd.type))) = some xs → (∀ q ∈ DataW.weightsEach P (fs.map (·.type)) (xs.map (·.1)), q ≤ reachBytes) →
    ∃ x, ok x ∧ (f x).length = n ∧ ∀ (i : Nat) (v : Value) (y : V), cs[k + i]? = some v → (f x)[i]? = some y → v.oneCell' = true ∧ RV (cz w) v y

theorem RdF.nil {P : Program} {k : Nat} : RdF P [] k 0 (fun _ : Unit => []) (fun _ => True) :=
  fun H enc w fuel cs xs h _ => ⟨(), trivial, rfl, fun i v y _ h => by simp at h⟩

theorem RdF.cons {P : Program} {fd : Field} {fs : List Field} {k n m : Nat} {α β : Type} {f : α → List V} {ok : α → Prop} {g : β → List V} {ok' : β → Prop} (ho : fd.offset = k) (h1 : Rd P fd.type n f ok) (h2 : RdF P fs (k + n) m g ok') :
    RdF P (fd :: fs) k (n + m) (fun p : α × β => f p.1 ++ g p.2) (fun p => ok p.1 ∧ ok' p.2) := by
  intro H enc w fuel cs xs h hwt
  rw [List.mapM_cons] at h
  simp only [bind, Option.bind_eq_some_iff, pure, Option.some.injEq] at h
  obtain ⟨d, hd, xs', hxs, rfl⟩ := h
  simp only [List.map_cons, DataW.weightsEach, List.mem_append] at hwt
  obtain ⟨x, a1, a2, a3, a4⟩ := h1.2 H enc w fuel _ _ _ hd fun q hq => hwt q (.inl hq)
  obtain ⟨y, b1, b2, b3⟩ := h2 H enc w fuel cs xs' hxs fun q hq => hwt q (.inr hq)
  refine ⟨(x, y), ⟨a1, b1⟩, by simp [a2, b2], fun i v z hv hz => ?_⟩
  rw [List.getElem?_append] at hz
  split at hz
  · next hi =>
    refine a4 i v z ?_ hz
    rw [List.getElem?_take, if_pos (by rw [h1.1, ← a2]; exact hi), List.getElem?_drop, ho]
    exact hv
  · next hi =>
    refine b3 (i - (f x).length) v z ?_ hz
    have hi : ¬ i < (f x).length := hi
    rw [← hv]; congr 1; omega

theorem Rd.struct {P : Program} {t : TypeId} {fs : Array Field} {n : Nat} {α : Type} {f : α → List V} {ok : α → Prop} (hu : P.underlying t = some (.struct fs)) (hc : P.cellsOf t = n) (hf : RdF P fs.toList 0 n f ok) : Rd P t n f ok := by
  refine ⟨hc, fun H enc w fuel cs d ps h hwt => ?_⟩
  cases fuel with
  | zero => simp [DataW.trod] at h
  | succ fuel =>
    have key : cs.length = P.cellsOf t ∧ ∃ xs, d = .agg (xs.map (·.1)) ∧ fs.toList.mapM (fun fd => DataW.trod enc P w 0 (fun _ => true) true fuel fd.type ((cs.drop fd.offset).take (P.cellsOf fd.type))) = some xs := by
      unfold DataW.trod at h
      rw [hu] at h
      simp only at h
      split at h
      · next hl =>
        rw [Option.map_eq_some_iff] at h
        obtain ⟨xs, h1, h2⟩ := h
        injection h2 with h2 h3
        exact ⟨hl, xs, h2.symm, h1⟩
      · cases h
    obtain ⟨hl, xs, rfl, hx⟩ := key
    obtain ⟨x, a1, a2, a3⟩ := hf H enc w fuel cs xs hx fun q hq => hwt q (by simp only [DataW.weights, hu]; exact hq)
    exact ⟨x, a1, a2, by rw [hl, hc], fun i v y hv hy => a3 i v y (by rw [Nat.zero_add]; exact hv) hy⟩

theorem Rd.map {P : Program} {t : TypeId} {n : Nat} {α β : Type} {f : α → List V} {ok : α → Prop} {g : β → List V} {ok' : β → Prop} (h : Rd P t n f ok) (hm : ∀ x, ok x → ∃ y, ok' y ∧ g y = f x) : Rd P t n g ok' := by
  refine ⟨h.1, fun H enc w fuel cs d ps ht hwt => ?_⟩
  obtain ⟨x, a1, a2, a3, a4⟩ := h.2 H enc w fuel cs d ps ht hwt
  obtain ⟨y, b1, b2⟩ := hm x a1
  exact ⟨y, b1, by rw [b2]; exact a2, a3, by rw [b2]; exact a4⟩

/-- An argument of one cell. -/
theorem Rd.arg1 {P : Program} {t : TypeId} {α : Type} {f : α → V} {ok : α → Prop} (h : Rd P t 1 (fun x => [f x]) ok) {H : Type} {enc : TypeId × Value → H} {w : World} {v : Value} {d : DataW H} {ps : List MemPlace} (ht : DataW.Trod enc P w 0 (fun _ => true) true t v d ps)
    (hwt : ∀ q ∈ DataW.weights P t d, q ≤ reachBytes) (hone : v.oneCell' = true) : ∃ x, ok x ∧ RV (cz w) v (f x) := by
  obtain ⟨fuel, ht⟩ := ht
  obtain ⟨x, a1, a2, a3, a4⟩ := h.2 H enc w fuel _ d ps ht hwt
  refine ⟨x, a1, (a4 0 v (f x) ?_ rfl).2⟩
  rw [cells_one hone]; rfl

/-- An argument of many. -/
theorem Rd.argN {P : Program} {t : TypeId} {n : Nat} {α : Type} {f : α → List V} {ok : α → Prop} (h : Rd P t n f ok) {H : Type} {enc : TypeId × Value → H} {w : World} {cs : Array Value} {d : DataW H} {ps : List MemPlace} (ht : DataW.Trod enc P w 0 (fun _ => true) true t (.agg cs) d ps) (hwt : ∀ q ∈ DataW.weights P t d, q ≤ reachBytes) :
    ∃ x, ok x ∧ RV (cz w) (.agg cs) (.agg (f x)) := by
  obtain ⟨fuel, ht⟩ := ht
  obtain ⟨x, a1, a2, a3, a4⟩ := h.2 H enc w fuel _ d ps ht hwt
  have a3 : cs.size = n := by simpa [Value.cells] using a3
  refine ⟨x, a1, .agg (by rw [a3, a2]) (fun i v hv => ?_) fun i v y hv hy => (a4 i v y (by simpa [Value.cells] using hv) hy).2⟩
  have hi : i < (f x).length := by rw [a2, ← a3]; exact (Array.getElem?_eq_some_iff.1 hv).1
  exact (a4 i v _ (by simpa [Value.cells] using hv) (List.getElem?_eq_getElem hi)).1

theorem weights_cons {H : Type} {P : Program} {t : TypeId} {ts : List TypeId} {d : DataW H} {ds : List (DataW H)} (h : (DataW.weightsEach P (t :: ts) (d :: ds)).all (· ≤ reachBytes) = true) :
    (∀ q ∈ DataW.weights P t d, q ≤ reachBytes) ∧ (DataW.weightsEach P ts ds).all (· ≤ reachBytes) = true := by
  simp only [DataW.weightsEach, List.all_append, Bool.and_eq_true] at h
  exact ⟨fun q hq => by simpa using List.all_eq_true.1 h.1 q hq, h.2⟩

/-- A law's call. -/
theorem DC.law {P : Program} {f : FuncId} {xs : List V} (h : DC P f xs [] fun r _ => r = .bool true) {W : World} {args : Array Value} (hr : RVs (cz W) args xs) :
    Calls P f args W fun e W' => e = .returned (.bool true) ∧ RowKit.Below W.heap.size W W' := by
  refine (h W βz (fun _ => False) args (cz_hok W) hr).mono fun e W' hres => ?_
  obtain ⟨r, x, H', β', rfl, adv, hx, rfl⟩ := hres
  rw [hx.of_a]
  refine ⟨rfl, adv.ext.os, adv.ext.tape, adv.ext.output, adv.ext.size, fun k hk => adv.ext.block k hk fun ⟨i, e⟩ => ?_⟩
  simp [ownsB] at e

theorem RVs.cons {c : Cx} {v : Value} {x : V} {vs : Array Value} {xs : List V} (h : RV c v x) (hs : RVs c vs xs) : RVs c (#[v] ++ vs) (x :: xs) := by
  refine ⟨by simp [hs.1]; omega, fun i u y h1 h2 => ?_⟩
  cases i with
  | zero => simp [Array.getElem?_append] at h1 h2; subst h1; subst h2; exact h
  | succ i =>
    rw [Array.getElem?_append, if_neg (by simp)] at h1
    exact hs.2 i u y (by simpa using h1) (by simpa using h2)

end Go.Abs

/- The problems, as Lean data. -/
namespace Go.Abs
attribute [local simp] I.vc sub merge place

structure Var where
  name : ByteArray
  lo : Int
  hi : Int
structure Term where
  c : Int
  x : Int
structure Con where
  kind : Int
  op : Int
  terms : List Term
  k : Int
  v : Int
  x : Int
  y : Int
  xs : List Int
  table : List Int
  rows : List (List Int)
structure Model where
  vars : List Var
  cons : List Con
  hasGoal : Bool
  goal : List Term

abbrev V.i (n : Int) : V := .a (.int .i64 n)
def vInts (l : List Int) : V := .view 1 (l.map fun n => [V.i n])
def vIntss (l : List (List Int)) : V := .view 1 (l.map fun r => [vInts r])
def Term.cells (t : Term) : List V := [V.i t.c, V.i t.x]
def vTerms (l : List Term) : V := .view 2 (l.map Term.cells)
def Var.cells (v : Var) : List V := [.str v.name, V.i v.lo, V.i v.hi]
def vVars (l : List Var) : V := .view 3 (l.map Var.cells)
def Con.cells (c : Con) : List V := [V.i c.kind, V.i c.op, vTerms c.terms, V.i c.k, V.i c.v, V.i c.x, V.i c.y, vInts c.xs, vInts c.table, vIntss c.rows]
def vCons (l : List Con) : V := .view 10 (l.map Con.cells)
def Model.cells (m : Model) : List V := [vVars m.vars, vCons m.cons, .bool m.hasGoal, vTerms m.goal]

def I64 (n : Int) : Prop := -9223372036854775808 ≤ n ∧ n ≤ 9223372036854775807
def okInts (l : List Int) : Prop := l.length ≤ maxLen ∧ ∀ n ∈ l, I64 n
def okTerm (t : Term) : Prop := I64 t.c ∧ I64 t.x
def okVar (v : Var) : Prop := v.name.size ≤ maxLen ∧ I64 v.lo ∧ I64 v.hi
def okTerms (l : List Term) : Prop := l.length ≤ maxLen ∧ ∀ t ∈ l, okTerm t
def okCon (c : Con) : Prop := I64 c.kind ∧ I64 c.op ∧ okTerms c.terms ∧ I64 c.k ∧ I64 c.v ∧ I64 c.x ∧ I64 c.y ∧ okInts c.xs ∧ okInts c.table ∧ c.rows.length ≤ maxLen ∧ ∀ r ∈ c.rows, okInts r
def okModel (m : Model) : Prop := (m.vars.length ≤ maxLen ∧ ∀ v ∈ m.vars, okVar v) ∧ (m.cons.length ≤ maxLen ∧ ∀ c ∈ m.cons, okCon c) ∧ okTerms m.goal

/-- The types that the readings below speak of. -/
structure MTypes (P : Program) (tInt tBool tStr tInts tIntss tTerm tTerms tVar tVars tCon tCons tModel : TypeId) : Prop where
  bytes : 8 ≤ P.bytesOf tInt ∧ 8 ≤ P.bytesOf tInts ∧ 8 ≤ P.bytesOf tTerm ∧ 8 ≤ P.bytesOf tVar ∧ 8 ≤ P.bytesOf tCon
  int : P.underlying tInt = some (.int .i64) ∧ P.cellsOf tInt = 1
  bool : P.underlying tBool = some .bool ∧ P.cellsOf tBool = 1
  str : P.underlying tStr = some .string ∧ P.cellsOf tStr = 1
  ints : P.underlying tInts = some (.slice tInt) ∧ P.cellsOf tInts = 1
  intss : P.underlying tIntss = some (.slice tInts) ∧ P.cellsOf tIntss = 1
  term : ∃ fs, P.underlying tTerm = some (.struct fs) ∧ P.cellsOf tTerm = 2 ∧ fs.toList.map (fun f => (f.type, f.offset)) = [(tInt, 0), (tInt, 1)]
  terms : P.underlying tTerms = some (.slice tTerm) ∧ P.cellsOf tTerms = 1
  var : ∃ fs, P.underlying tVar = some (.struct fs) ∧ P.cellsOf tVar = 3 ∧ fs.toList.map (fun f => (f.type, f.offset)) = [(tStr, 0), (tInt, 1), (tInt, 2)]
  vars : P.underlying tVars = some (.slice tVar) ∧ P.cellsOf tVars = 1
  con : ∃ fs, P.underlying tCon = some (.struct fs) ∧ P.cellsOf tCon = 10 ∧ fs.toList.map (fun f => (f.type, f.offset)) = [(tInt, 0), (tInt, 1), (tTerms, 2), (tInt, 3), (tInt, 4), (tInt, 5), (tInt, 6), (tInts, 7), (tInts, 8), (tIntss, 9)]
  cons : P.underlying tCons = some (.slice tCon) ∧ P.cellsOf tCons = 1
  model : ∃ fs, P.underlying tModel = some (.struct fs) ∧ P.cellsOf tModel = 4 ∧ fs.toList.map (fun f => (f.type, f.offset)) = [(tVars, 0), (tCons, 1), (tBool, 2), (tTerms, 3)]

def fl (t : TypeId) (o : Nat) : Field := { (default : Field) with type := t, offset := o }

/-- So long is what is read, at most. -/
def maxS : Nat := 17592186044416
def zInts (l : List Int) : Prop := okInts l ∧ l.length ≤ maxS
def zTerms (l : List Term) : Prop := okTerms l ∧ l.length ≤ maxS
def zVar (v : Var) : Prop := okVar v ∧ v.name.size ≤ reachBytes
def zCon (c : Con) : Prop := okCon c ∧ c.terms.length ≤ maxS ∧ c.xs.length ≤ maxS ∧ c.table.length ≤ maxS ∧ c.rows.length ≤ maxS ∧ ∀ r ∈ c.rows, r.length ≤ maxS
def zModel (m : Model) : Prop := okModel m ∧ m.vars.length ≤ maxS ∧ m.cons.length ≤ maxS ∧ m.goal.length ≤ maxS ∧ (∀ v ∈ m.vars, v.name.size ≤ reachBytes) ∧ ∀ c ∈ m.cons, zCon c
theorem maxS_of {n b : Nat} (h : n * b ≤ reachBytes) (hb : 8 ≤ b) : n ≤ maxS := by
  have h1 : n * 8 ≤ n * b := Nat.mul_le_mul_left _ hb
  unfold reachBytes at h
  unfold maxS
  omega

theorem RdF.of_map {P : Program} {fs : List Field} {k n : Nat} {α : Type} {g : α → List V} {ok : α → Prop} (h : RdF P fs k n g ok) {gs : List Field} (he : gs.map (fun f => (f.type, f.offset)) = fs.map (fun f => (f.type, f.offset))) : RdF P gs k n g ok := by
  intro H enc w fuel cs xs hx hwt
  have ht : gs.map (·.type) = fs.map (·.type) := by have := congrArg (List.map Prod.fst) he; simpa [Function.comp_def] using this
  rw [ht] at hwt
  refine h H enc w fuel cs xs ?_ hwt
  have : ∀ (l : List Field), l.mapM (fun fd => DataW.trod enc P w 0 (fun _ => true) true fuel fd.type ((cs.drop fd.offset).take (P.cellsOf fd.type))) = (l.map fun f => (f.type, f.offset)).mapM (fun q => DataW.trod enc P w 0 (fun _ => true) true fuel q.1 ((cs.drop q.2).take (P.cellsOf q.1))) := by
    intro l
    induction l with
    | nil => rfl
    | cons a l ih => rw [List.map_cons, List.mapM_cons, List.mapM_cons, ih]
  rw [this] at hx ⊢
  rw [← he]; exact hx

section
variable {P : Program} {tInt tBool tStr tInts tIntss tTerm tTerms tVar tVars tCon tCons tModel : TypeId} (M : MTypes P tInt tBool tStr tInts tIntss tTerm tTerms tVar tVars tCon tCons tModel)
include M

theorem MTypes.rdInt : Rd P tInt 1 (fun n : Int => [V.i n]) I64 :=
  (Rd.int M.int.1 M.int.2).map fun n h => ⟨n, by
    have : (decide (IntKind.i64.min ≤ n) && decide (n ≤ IntKind.i64.max)) = true := h
    simp only [Bool.and_eq_true, decide_eq_true_eq] at this
    exact ⟨this.1, this.2⟩, rfl⟩

theorem MTypes.rdInts : Rd P tInts 1 (fun l : List Int => [vInts l]) zInts :=
  (Rd.slice M.ints.1 M.ints.2 (by omega) M.rdInt).map fun l h => ⟨l, ⟨⟨h.1, h.2.2⟩, maxS_of h.2.1 M.bytes.1⟩, rfl⟩

theorem MTypes.rdIntss : Rd P tIntss 1 (fun l : List (List Int) => [vIntss l]) (fun l => l.length ≤ maxLen ∧ l.length ≤ maxS ∧ ∀ r ∈ l, zInts r) :=
  (Rd.slice M.intss.1 M.intss.2 (by omega) M.rdInts).map fun l h => ⟨l, ⟨h.1, maxS_of h.2.1 M.bytes.2.1, h.2.2⟩, rfl⟩

theorem MTypes.rdTerm : Rd P tTerm 2 Term.cells okTerm := by
  obtain ⟨fs, h1, h2, h3⟩ := M.term
  refine (Rd.struct h1 h2 (RdF.of_map (fs := [fl tInt 0, fl tInt 1]) (.cons rfl M.rdInt (.cons rfl M.rdInt .nil)) h3)).map fun x h => ?_
  exact ⟨⟨x.1, x.2.1⟩, ⟨h.1, h.2.1⟩, rfl⟩

theorem MTypes.rdTerms : Rd P tTerms 1 (fun l : List Term => [vTerms l]) zTerms :=
  (Rd.slice M.terms.1 M.terms.2 (by omega) M.rdTerm).map fun l h => ⟨l, ⟨⟨h.1, h.2.2⟩, maxS_of h.2.1 M.bytes.2.2.1⟩, rfl⟩

theorem MTypes.rdVar : Rd P tVar 3 Var.cells zVar := by
  obtain ⟨fs, h1, h2, h3⟩ := M.var
  refine (Rd.struct h1 h2 (RdF.of_map (fs := [fl tStr 0, fl tInt 1, fl tInt 2]) (.cons rfl (Rd.str M.str.1 M.str.2) (.cons rfl M.rdInt (.cons rfl M.rdInt .nil))) h3)).map fun x h => ?_
  exact ⟨⟨x.1, x.2.1, x.2.2.1⟩, ⟨⟨h.1.1, h.2.1, h.2.2.1⟩, h.1.2⟩, rfl⟩

theorem MTypes.rdCon : Rd P tCon 10 Con.cells zCon := by
  obtain ⟨fs, h1, h2, h3⟩ := M.con
  refine (Rd.struct h1 h2 (RdF.of_map (fs := [fl tInt 0, fl tInt 1, fl tTerms 2, fl tInt 3, fl tInt 4, fl tInt 5, fl tInt 6, fl tInts 7, fl tInts 8, fl tIntss 9])
    (.cons rfl M.rdInt (.cons rfl M.rdInt (.cons rfl M.rdTerms (.cons rfl M.rdInt (.cons rfl M.rdInt (.cons rfl M.rdInt (.cons rfl M.rdInt (.cons rfl M.rdInts (.cons rfl M.rdInts (.cons rfl M.rdIntss .nil)))))))))) h3)).map fun x h => ?_
  obtain ⟨a1, a2, a3, a4, a5, a6, a7, a8, a9, a10, _⟩ := h
  exact ⟨⟨x.1, x.2.1, x.2.2.1, x.2.2.2.1, x.2.2.2.2.1, x.2.2.2.2.2.1, x.2.2.2.2.2.2.1, x.2.2.2.2.2.2.2.1, x.2.2.2.2.2.2.2.2.1, x.2.2.2.2.2.2.2.2.2.1⟩, ⟨⟨a1, a2, a3.1, a4, a5, a6, a7, a8.1, a9.1, a10.1, fun r hr => (a10.2.2 r hr).1⟩, a3.2, a8.2, a9.2, a10.2.1, fun r hr => (a10.2.2 r hr).2⟩, rfl⟩

theorem MTypes.rdModel : Rd P tModel 4 Model.cells zModel := by
  obtain ⟨fs, h1, h2, h3⟩ := M.model
  refine (Rd.struct h1 h2 (RdF.of_map (fs := [fl tVars 0, fl tCons 1, fl tBool 2, fl tTerms 3])
    (.cons rfl (Rd.slice M.vars.1 M.vars.2 (by omega) M.rdVar) (.cons rfl (Rd.slice M.cons.1 M.cons.2 (by omega) M.rdCon) (.cons rfl (Rd.bool M.bool.1 M.bool.2) (.cons rfl M.rdTerms .nil)))) h3)).map fun x h => ?_
  obtain ⟨a1, a2, a3, a4, _⟩ := h
  exact ⟨⟨x.1, x.2.1, x.2.2.1, x.2.2.2.1⟩, ⟨⟨⟨a1.1, fun v hv => (a1.2.2 v hv).1⟩, ⟨a2.1, fun c hc => (a2.2.2 c hc).1⟩, a4.1⟩, maxS_of a1.2.1 M.bytes.2.2.2.1, maxS_of a2.2.1 M.bytes.2.2.2.2, a4.2, fun v hv => (a1.2.2 v hv).2, fun c hc => a2.2.2 c hc⟩, rfl⟩

end
end Go.Abs


/- What the functions of the package model compute, as Lean functions. -/
namespace Go.Abs

structure Needs where
  terms : Bool
  xs : Bool
  table : Bool
  rows : Bool
  x : Bool
  y : Bool
  k : Bool
  op : Bool
  v : Bool
  deriving DecidableEq

/-- A kind's needs, as they lie in memory. -/
def Needs.cells (n : Needs) (f : FuncId) : List V := [.bool n.terms, .bool n.xs, .bool n.table, .bool n.rows, .bool n.x, .bool n.y, .bool n.k, .bool n.op, .bool n.v, .fn (.func f) [] []]

def needs (k : Int) : Option Needs :=
  if k = 1 then some ⟨true, false, false, false, false, false, true, true, false⟩
  else if k = 2 then some ⟨false, false, false, false, true, true, true, false, false⟩
  else if k = 3 then some ⟨false, true, false, false, false, false, false, false, false⟩
  else if k = 4 then some ⟨false, false, true, false, true, true, false, false, false⟩
  else if k = 5 then some ⟨false, true, false, false, false, true, false, false, false⟩
  else if k = 6 then some ⟨false, true, false, false, false, true, false, false, false⟩
  else if k = 7 then some ⟨true, false, false, false, true, false, true, false, false⟩
  else if k = 8 then some ⟨false, true, false, true, false, false, false, false, false⟩
  else if k = 9 then some ⟨false, true, false, false, false, false, true, true, true⟩
  else none

def withinB (n most : Int) : Bool := decide (-most ≤ n) && decide (n ≤ most)
def greatB (l : List Int) : Bool := l.any fun t => !withinB t 1000000000
def countsB (there : Bool) (n : Nat) : Bool := !there || (decide (1 ≤ n) && decide (n ≤ 64))
def badVarB (vars : Int) (l : List Term) : Bool := l.any fun t => decide (t.x < 0) || decide (vars ≤ t.x)
def badCoefB (l : List Term) : Bool := l.any fun t => decide (t.c = 0) || !withinB t.c 1000000
def noB (vars x : Int) : Bool := decide (x < 0) || decide (vars ≤ x)
def fieldB (c : Con) (n : Needs) : Bool :=
  (!n.op && decide (c.op ≠ 0)) || (!n.k && decide (c.k ≠ 0)) || (!n.v && decide (c.v ≠ 0)) || (!n.x && decide (c.x ≠ 0)) || (!n.y && decide (c.y ≠ 0)) ||
  (!n.terms && decide (0 < c.terms.length)) || (!n.xs && decide (0 < c.xs.length)) || (!n.table && decide (0 < c.table.length)) || (!n.rows && decide (0 < c.rows.length))
def wideB (c : Con) (n : Needs) : Bool :=
  n.rows && (decide (8 < c.xs.length) || !countsB true c.rows.length || c.rows.any fun r => decide (r.length ≠ c.xs.length))
def conN (c : Con) (vars : Int) (n : Needs) : Int :=
  if n.op && (decide (c.op < 1) || decide (3 < c.op)) then 43
  else if fieldB c n then 48
  else if !countsB n.terms c.terms.length || !countsB n.xs c.xs.length || !countsB n.table c.table.length || wideB c n then 47
  else if badVarB vars c.terms || (n.x && noB vars c.x) || (n.y && noB vars c.y) || c.xs.any (noB vars) then 44
  else if badCoefB c.terms then 45
  else if !withinB c.k 1000000000 || !withinB c.v 1000000000 || greatB c.table || c.rows.any greatB then 46
  else 0
def conB (c : Con) (vars : Int) : Int :=
  match needs c.kind with
  | none => 43
  | some n => conN c vars n

def letterB (r : Nat) : Bool := (decide (97 ≤ r) && decide (r ≤ 122)) || (decide (65 ≤ r) && decide (r ≤ 90)) || decide (r = 95)
def nameFrom (s : ByteArray) : Nat → Nat → Bool
  | 0, _ => true
  | f + 1, pos => if pos < s.size then
      (if !letterB (Utf8.decode s pos).1 && (decide (pos = 0) || decide ((Utf8.decode s pos).1 < 48) || decide (57 < (Utf8.decode s pos).1)) then false else nameFrom s f (pos + (Utf8.decode s pos).2))
    else true
def nameB (s : ByteArray) : Bool := nameFrom s (s.size + 1) 0 && decide (1 ≤ s.size) && decide (s.size ≤ 16)

def varB (l : List Var) (i : Nat) (v : Var) : Int :=
  if !nameB v.name || (l.take i).any fun w => decide (w.name = v.name) then 41
  else if !withinB v.lo 1000000000 || !withinB v.hi 1000000000 || decide (v.hi < v.lo) || decide (64 ≤ v.hi - v.lo) then 42
  else 0

def goalB (m : Model) : Int :=
  if !m.hasGoal && decide (0 < m.goal.length) then 48
  else if !countsB m.hasGoal m.goal.length then 47
  else if badVarB m.vars.length m.goal then 44
  else if badCoefB m.goal then 45
  else 0

/-- The first place of which something else than 0 is told. -/
def firstBad {α : Type} (f : Nat → α → Int) : Nat → List α → Option (Nat × Int)
  | _, [] => none
  | i, x :: l => if f i x = 0 then firstBad f (i + 1) l else some (i, f i x)

def checkB (m : Model) : Int × Int :=
  if m.vars.length = 0 ∨ 32 < m.vars.length then (0, 40)
  else match firstBad (varB m.vars) 0 m.vars with
    | some (i, e) => ((i : Int), e)
    | none => if 64 < m.cons.length then ((m.vars.length : Int), 49)
      else match firstBad (fun _ c => conB c m.vars.length) 0 m.cons with
        | some (i, e) => ((m.vars.length : Int) + i, e)
        | none => if goalB m = 0 then (0, 0) else ((m.vars.length : Int) + m.cons.length, goalB m)

def rightB (m : Model) : Bool := decide ((checkB m).2 = 0)

end Go.Abs

/- Worth, Floor, Ceil: plain laws. -/
namespace Go.Abs

theorem firstBad_none {α : Type} {f : Nat → α → Int} : ∀ {l : List α} {i : Nat}, firstBad f i l = none → ∀ (j : Nat) (x : α), l[j]? = some x → f (i + j) x = 0 := by
  intro l
  induction l with
  | nil => intro i _ j x h; simp at h
  | cons y l ih =>
    intro i h j x hj
    simp only [firstBad] at h
    split at h
    · next h0 =>
      cases j with
      | zero => simp at hj; subst hj; simpa using h0
      | succ j =>
        have := ih h j x (by simpa using hj)
        rw [← this]; congr 1; omega
    · cases h

theorem firstBad_some {α : Type} {f : Nat → α → Int} : ∀ {l : List α} {i : Nat} {p : Nat × Int}, firstBad f i l = some p → p.2 ≠ 0 := by
  intro l
  induction l with
  | nil => intro i p h; simp [firstBad] at h
  | cons y l ih =>
    intro i p h
    simp only [firstBad] at h
    split at h
    · exact ih h
    · next h0 => cases h; exact h0

structure Right (m : Model) : Prop where
  nv : 1 ≤ m.vars.length ∧ m.vars.length ≤ 32
  nc : m.cons.length ≤ 64
  var : ∀ (i : Nat) (v : Var), m.vars[i]? = some v → varB m.vars i v = 0
  con : ∀ c ∈ m.cons, conB c m.vars.length = 0
  goal : goalB m = 0

theorem right_iff {m : Model} : rightB m = true ↔ Right m := by
  unfold rightB checkB
  simp only [decide_eq_true_eq]
  constructor
  · intro h
    split at h
    · simp at h
    · next h1 =>
      split at h
      · next p i e hp => exact absurd h (firstBad_some hp)
      · next hv =>
        split at h
        · simp at h
        · next h2 =>
          split at h
          · next p i e hp => exact absurd h (firstBad_some hp)
          · next hc =>
            split at h
            · next hg =>
              refine ⟨by omega, by omega, fun i v hi => ?_, fun c hc' => ?_, hg⟩
              · have := firstBad_none hv i v hi; simpa using this
              · obtain ⟨j, hj⟩ := List.getElem?_of_mem hc'
                have := firstBad_none hc j c hj; simpa using this
            · next hg => exact absurd h hg
  · intro h
    rw [if_neg (by have := h.nv; omega)]
    have key : ∀ {α : Type} (f : Nat → α → Int) (l : List α) (i : Nat), (∀ (j : Nat) (x : α), l[j]? = some x → f (i + j) x = 0) → firstBad f i l = none := by
      intro α f l
      induction l with
      | nil => intro i _; rfl
      | cons x l ih =>
        intro i h
        simp only [firstBad]
        rw [if_pos (by simpa using h 0 x rfl)]
        refine ih _ fun j y hj => ?_
        have := h (j + 1) y (by simpa using hj)
        rw [← this]; congr 1; omega
    rw [key _ m.vars 0 fun j x hj => by rw [Nat.zero_add]; exact h.var j x hj]
    simp only
    rw [if_neg (by have := h.nc; omega), key _ m.cons 0 fun j x hj => h.con x (List.mem_of_getElem? hj)]
    simp [h.goal]

structure VarOk (v : Var) : Prop where
  lo : -1000000000 ≤ v.lo ∧ v.lo ≤ 1000000000
  hi : -1000000000 ≤ v.hi ∧ v.hi ≤ 1000000000
  le : v.lo ≤ v.hi
  dom : v.hi - v.lo < 64

theorem VarOk.of {l : List Var} {i : Nat} {v : Var} (h : varB l i v = 0) : VarOk v := by
  unfold varB at h
  split at h
  · cases h
  · split at h
    · cases h
    · next h2 =>
      simp only [withinB, Bool.or_eq_true, Bool.not_eq_true', Bool.and_eq_false_iff, decide_eq_true_eq, decide_eq_false_iff_not, not_or, Bool.not_eq_false] at h2
      constructor <;> omega

structure TermOk (vars : Nat) (t : Term) : Prop where
  x : 0 ≤ t.x ∧ t.x < vars
  c : -1000000 ≤ t.c ∧ t.c ≤ 1000000 ∧ t.c ≠ 0

theorem TermOk.of {vars : Nat} {l : List Term} (h1 : badVarB vars l = false) (h2 : badCoefB l = false) : ∀ t ∈ l, TermOk vars t := by
  intro t ht
  unfold badVarB at h1
  unfold badCoefB at h2
  rw [List.any_eq_false] at h1 h2
  have h1 := h1 t ht
  have h2 := h2 t ht
  simp only [withinB, Bool.or_eq_true, Bool.not_eq_true', Bool.and_eq_false_iff, decide_eq_true_eq, decide_eq_false_iff_not, not_or, Bool.not_eq_false] at h1 h2
  constructor <;> omega

theorem Right.terms {m : Model} (h : Right m) : (∀ t ∈ m.goal, TermOk m.vars.length t) ∧ m.goal.length ≤ 64 := by
  have hg := h.goal
  unfold goalB at hg
  split at hg
  · cases hg
  · next h1 =>
    split at hg
    · cases hg
    · next h2 =>
      split at hg
      · cases hg
      · next h3 =>
        split at hg
        · cases hg
        · next h4 =>
          refine ⟨TermOk.of (by simpa using h3) (by simpa using h4), ?_⟩
          simp [countsB] at h1 h2
          cases hh : m.hasGoal
          · simp [h1 hh]
          · have := h2 hh
            omega

/-- Values within the bounds. -/
def Within (m : Model) (l : List Int) : Prop := l.length = m.vars.length ∧ ∀ (i : Nat) (v : Var), m.vars[i]? = some v → v.lo ≤ l.getD i 0 ∧ l.getD i 0 ≤ v.hi

theorem Within.great {m : Model} (h : Right m) {l : List Int} (hw : Within m l) : greatB l = false := by
  unfold greatB
  rw [List.any_eq_false]
  intro x hx
  obtain ⟨i, hi⟩ := List.getElem?_of_mem hx
  have hlt : i < m.vars.length := by rw [← hw.1]; exact (List.getElem?_eq_some_iff.1 hi).1
  have hv := List.getElem?_eq_getElem hlt
  have h1 := hw.2 i _ hv
  have h2 := VarOk.of (h.var i _ hv)
  have h3 : l.getD i 0 = x := by simp [List.getD, hi]
  rw [h3] at h1
  have := h2.lo; have := h2.hi
  simp [withinB]
  omega

end Go.Abs

namespace Go.Abs.G
set_option linter.unusedVariables false
attribute [local simp] I.vc sub merge place

theorem wrap32 {n : Int} (h0 : 0 ≤ n) (h1 : n < 4294967296) : IntKind.u32.wrap n = n := by
  simp [IntKind.wrap, IntKind.bits, IntKind.signed]
  omega
theorem bits32 : IntKind.u32.bits = 32 := rfl
theorem fdivN (a j : Nat) : ((a : Int).fdiv (2 ^ j)) = ((a / 2 ^ j : Nat) : Int) := by
  rw [Int.fdiv_eq_ediv_of_nonneg _ (Int.pow_nonneg (by decide))]
  simp

theorem bit32 {a j : Nat} (ha : a < 4294967296) (hj : j < 32) :
    (IntKind.u32.wrap ↑(BitVec.ofInt 32 ((a : Int).fdiv (2 ^ min j 32)) &&& 1#32).toNat == 1) = a.testBit j := by
  rw [Nat.min_eq_left (by omega), fdivN]
  have h1 : a / 2 ^ j < 4294967296 := Nat.lt_of_le_of_lt (Nat.div_le_self _ _) ha
  rw [Nat.testBit_eq_decide_div_mod_eq]
  generalize a / 2 ^ j = q at *
  have h2 : (BitVec.ofInt 32 (q : Int) &&& 1#32).toNat = q % 2 := by
    rw [BitVec.toNat_and, BitVec.ofInt_natCast, BitVec.toNat_ofNat, BitVec.toNat_ofNat, Nat.mod_eq_of_lt (by omega : q < 2 ^ 32)]
    exact Nat.and_one_is_mod q
  rw [h2, wrap32 (by omega) (by omega)]
  rcases Nat.mod_two_eq_zero_or_one q with h | h <;> rw [h] <;> rfl

theorem one_shl : ∀ j, j < 32 → BitVec.ofInt 32 (IntKind.u32.wrap (2 ^ min j 32)) = 1#32 <<< j := by decide +kernel

def clr (a j : Nat) : Nat := (BitVec.ofNat 32 a &&& ~~~(1#32 <<< j)).toNat
def sett (a j : Nat) : Nat := (BitVec.ofNat 32 a ||| (1#32 <<< j)).toNat

theorem clr_lt (a j : Nat) : clr a j < 4294967296 := BitVec.isLt _
theorem sett_lt (a j : Nat) : sett a j < 4294967296 := BitVec.isLt _

theorem clr32 {a j : Nat} (hj : j < 32) : IntKind.u32.wrap ↑(BitVec.ofNat 32 a &&& ~~~BitVec.ofInt 32 (IntKind.u32.wrap (2 ^ min j 32))).toNat = (clr a j : Int) := by
  rw [one_shl j hj]
  exact wrap32 (Int.natCast_nonneg _) (by have := clr_lt a j; unfold clr at this; omega)
theorem sett32 {a j : Nat} (hj : j < 32) : IntKind.u32.wrap ↑(BitVec.ofNat 32 a ||| BitVec.ofInt 32 (IntKind.u32.wrap (2 ^ min j 32))).toNat = (sett a j : Int) := by
  rw [one_shl j hj]
  exact wrap32 (Int.natCast_nonneg _) (by have := sett_lt a j; unfold sett at this; omega)

theorem shl_bit (j i : Nat) (hj : j < 32) : (1#32 <<< j).getLsbD i = decide (i = j) := by
  rw [BitVec.getLsbD_shiftLeft]
  by_cases h : i = j
  · subst h; simp [hj]
  · by_cases h2 : i < j
    · simp [h2, h]
    · have : i - j ≠ 0 := by omega
      simp [h, BitVec.getLsbD_one, this]
theorem clr_bit {a j : Nat} (ha : a < 4294967296) (hj : j < 32) (i : Nat) : (clr a j).testBit i = (a.testBit i && !decide (i = j)) := by
  unfold clr
  rw [BitVec.testBit_toNat, BitVec.getLsbD_and, BitVec.getLsbD_not, shl_bit j i hj, BitVec.getLsbD_ofNat]
  by_cases h : i < 32
  · simp [h]
  · have : a.testBit i = false := Nat.testBit_lt_two_pow (Nat.lt_of_lt_of_le (show a < 2 ^ 32 from ha) (Nat.pow_le_pow_right (by omega) (by omega : 32 ≤ i)))
    simp [h, this]
theorem sett_bit {a j : Nat} (ha : a < 4294967296) (hj : j < 32) (i : Nat) : (sett a j).testBit i = (a.testBit i || decide (i = j)) := by
  unfold sett
  rw [BitVec.testBit_toNat, BitVec.getLsbD_or, shl_bit j i hj, BitVec.getLsbD_ofNat]
  by_cases h : i < 32
  · simp [h]
  · have : a.testBit i = false := Nat.testBit_lt_two_pow (Nat.lt_of_lt_of_le (show a < 2 ^ 32 from ha) (Nat.pow_le_pow_right (by omega) (by omega : 32 ≤ i)))
    simp [h, this]
end Go.Abs.G


namespace Go.Abs.G
open Go.Proofs
set_option linter.unusedVariables false
set_option linter.unusedSimpArgs false
attribute [local simp] I.vc sub merge place

structure Dom where
  from' : Int
  width : Nat
  a : Nat
  b : Nat

abbrev V.w (n : Nat) : V := .a (.int .u32 n)
def Dom.row (d : Dom) : List V := [V.i d.from', V.i d.width, V.w d.a, V.w d.b]
def Dom.has (d : Dom) (i : Nat) : Bool := if i < 32 then d.a.testBit i else d.b.testBit (i - 32)
structure Dom.ok (d : Dom) : Prop where
  f : -1000000000 ≤ d.from' ∧ d.from' ≤ 1000000000
  w : d.width ≤ 64
  a : d.a < 4294967296
  b : d.b < 4294967296

theorem has_spec {rows : List (List V)} {d : Dom} {x k : Nat} (hx : rows[x]? = some d.row) (hd : d.ok) (hk : k < 64) :
    DC Tryz.prog dom_set_has.id [.ptr 0 rows.length x 2, V.i k] [.mem false [] rows] (fun r H => r = .bool (d.has k) ∧ H = [.mem false [] rows]) := by
  obtain ⟨hlt, he⟩ := List.getElem?_eq_some_iff.1 hx
  refine DC.of dom_set_has.ok (by simp) ?_
  have ht : ((k : Int).tmod 32) = ((k % 32 : Nat) : Int) := by rw [Int.tmod_eq_emod_of_nonneg (by omega)]; rfl
  have hm : ((k : Int) % 32).toNat = k % 32 := by omega
  have hp : 0 ≤ (k : Int) % 32 := by omega
  by_cases h : k < 32
  · have h1 : IntKind.i64.wrap ((k : Int) / 32) = 0 := by rw [wrap64] <;> omega
    have h2 : k % 32 = k := by omega
    simp [ht, hm, hp, h2, dom_set_has.ir, dom_set_has.rs, h1, hx, he, hlt, Dom.row, Dom.has, h, bits32]
    exact bit32 hd.a h
  · have h1 : IntKind.i64.wrap ((k : Int) / 32) = 1 := by rw [wrap64] <;> omega
    have h2 : k % 32 = k - 32 := by omega
    have h3 : k - 32 < 32 := by omega
    simp [ht, hm, hp, h2, dom_set_has.ir, dom_set_has.rs, h1, hx, he, hlt, Dom.row, Dom.has, h, bits32]
    exact bit32 hd.b h3
end Go.Abs.G


namespace Go.Abs.G
open Go.Proofs
set_option linter.unusedVariables false
attribute [local simp] I.vc sub merge place
end Go.Abs.G


namespace Go.Abs.G
open Go.Proofs
set_option linter.unusedVariables false
attribute [local simp] I.vc sub merge place

def pop (n : Nat) : Nat := (List.range 32).countP n.testBit

end Go.Abs.G


namespace Go.Abs.G
open Go.Proofs
set_option linter.unusedVariables false
set_option linter.unusedSimpArgs false
attribute [local simp] I.vc sub merge place

def Dom.drop (d : Dom) (k : Nat) : Dom := if k < 32 then { d with a := clr d.a k } else { d with b := clr d.b (k - 32) }
theorem drop_spec {rows : List (List V)} {d : Dom} {x k : Nat} (hx : rows[x]? = some d.row) (hd : d.ok) (hk : k < 64) :
    DC Tryz.prog dom_set_drop.id [.ptr 0 rows.length x 2, V.i k] [.mem false [] rows] (fun r H => r = .tup [] ∧ H = [.mem false [] (rows.set x (d.drop k).row)]) := by
  obtain ⟨hlt, he⟩ := List.getElem?_eq_some_iff.1 hx
  refine DC.of dom_set_drop.ok (by simp) ?_
  have ht : ((k : Int).tmod 32) = ((k % 32 : Nat) : Int) := by rw [Int.tmod_eq_emod_of_nonneg (by omega)]; rfl
  have hm : ((k : Int) % 32).toNat = k % 32 := by omega
  have hp : 0 ≤ (k : Int) % 32 := by omega
  by_cases h : k < 32
  · have h1 : IntKind.i64.wrap ((k : Int) / 32) = 0 := by rw [wrap64] <;> omega
    have h2 : k % 32 = k := by omega
    simp [ht, hm, hp, h2, dom_set_drop.ir, dom_set_drop.rs, h1, hx, he, hlt, Dom.row, Dom.drop, h, bits32]
    exact congrArg (fun n => rows.set x [V.i d.from', V.i ↑d.width, V.a (.int .u32 n), V.w d.b]) (clr32 h)
  · have h1 : IntKind.i64.wrap ((k : Int) / 32) = 1 := by rw [wrap64] <;> omega
    have h2 : k % 32 = k - 32 := by omega
    have h3 : k - 32 < 32 := by omega
    simp [ht, hm, hp, h2, dom_set_drop.ir, dom_set_drop.rs, h1, hx, he, hlt, Dom.row, Dom.drop, h, bits32]
    exact congrArg (fun n => rows.set x [V.i d.from', V.i ↑d.width, V.w d.a, V.a (.int .u32 n)]) (clr32 h3)
def goesB (kind v x : Int) : Bool := if kind = 1 then decide (x < v) else if kind = 2 then decide (v < x) else decide (kind = 3) && decide (x = v)
theorem goes_spec (kind x v y : Int) : Pf Tryz.prog dom_goes.id [.agg [V.i kind, V.i x, V.i v], V.i y] (.bool (goesB kind v y)) := by
  refine DC.of dom_goes.ok (by simp) ?_
  by_cases h1 : kind = 1
  · simp [dom_goes.ir, dom_goes.rs, h1, goesB]
  · by_cases h2 : kind = 2
    · simp [dom_goes.ir, dom_goes.rs, h1, h2, goesB]
    · by_cases h3 : kind = 3
      · simp [dom_goes.ir, dom_goes.rs, h1, h2, h3, goesB, Bool.beq_eq_decide_eq]
      · simp [dom_goes.ir, dom_goes.rs, h1, h2, h3, goesB]
end Go.Abs.G


/- Objects that own what their cells' slices lie in: taken apart, put together. -/
namespace Go.Abs
set_option linter.unusedVariables false

mutual
def Ce.ids : Ce → List Nat
  | .v x => x.ids
  | .n _ rows => Ce.idsR rows
def Ce.idsL : List Ce → List Nat
  | [] => []
  | x :: l => x.ids ++ Ce.idsL l
def Ce.idsR : List (List Ce) → List Nat
  | [] => []
  | r :: l => Ce.idsL r ++ Ce.idsR l
end

theorem Ce.idsL_mem {l : List Ce} {j k : Nat} {x : Ce} (h : l[j]? = some x) (hk : k ∈ x.ids) : k ∈ Ce.idsL l := by
  induction l generalizing j with
  | nil => simp at h
  | cons y l ih =>
    simp only [Ce.idsL, List.mem_append]
    cases j with
    | zero => simp at h; subst h; exact .inl hk
    | succ j => exact .inr (ih (by simpa using h))
theorem Ce.idsR_mem {l : List (List Ce)} {i k : Nat} {r : List Ce} (h : l[i]? = some r) (hk : k ∈ Ce.idsL r) : k ∈ Ce.idsR l := by
  induction l generalizing i with
  | nil => simp at h
  | cons y l ih =>
    simp only [Ce.idsR, List.mem_append]
    cases i with
    | zero => simp at h; subst h; exact .inl hk
    | succ i => exact .inr (ih (by simpa using h))

theorem only_sub {c : Cx} {refs refs' : List Nat} {v : Value} {x : V} (h : RV (c.only refs) v x) (hs : ∀ k ∈ x.ids, k ∈ refs') : RV (c.only refs') v x :=
  (h.onlyOf refs' hs).mono ⟨Nat.le_refl _, fun _ _ hn => ⟨rfl, hn⟩, fun k hl => ⟨hl.1, hl.2.2⟩, fun _ _ _ e => .inl e⟩

theorem TR.refs {c : Cx} {refs refs' : List Nat} {S : Nat → Prop} {u : Value} {x : Ce} (h : TR c refs S u x) (hs : ∀ k ∈ x.ids, k ∈ refs') : TR c refs' S u x := by
  induction h with
  | v h1 h => exact .v h1 (only_sub h fun k hk => hs k (by simpa only [Ce.ids] using hk))
  | nil => exact .nil
  | n had cs E g T hb hcap hsz hlen hg hr hT hS hd hd2 ih =>
    exact .n had cs E g T hb hcap hsz hlen hg (fun i row hi j x hj => ih i row hi j x hj fun k hk => hs k (by simp only [Ce.ids]; exact Ce.idsR_mem hi (Ce.idsL_mem hj hk))) hT hS hd hd2

theorem TR.inv {c : Cx} {refs : List Nat} {S : Nat → Prop} {ad : Addr} {n cap es : Nat} {rows : List (List Ce)} (h : TR c refs S (.slice (some ad) n cap) (.n es rows)) (hne : rows ≠ [] ∨ ∃ b, S b) :
    ∃ (b o : Nat) (cs : Array Value) (E : TypeId) (g : Nat → Nat → Value) (T : Nat → Nat → Nat → Prop), (0 < cap → ad = ⟨b, o, none⟩) ∧
      c.hp[b]? = some (.cells cs E (0, 0)) ∧ rows.length ≤ cap ∧ o + cap * es ≤ cs.size ∧ (∀ (i : Nat) (row : List Ce), rows[i]? = some row → row.length = es) ∧
      (∀ (i : Nat) (row : List Ce), rows[i]? = some row → ∀ (j : Nat) (x : Ce), row[j]? = some x → cs[o + i * es + j]? = some (g i j)) ∧
      (∀ (i : Nat) (row : List Ce), rows[i]? = some row → ∀ (j : Nat) (x : Ce), row[j]? = some x → TR c refs (T i j) (g i j) x) ∧
      (∀ i j k, T i j k → ∃ row x, rows[i]? = some row ∧ row[j]? = some x) ∧
      (∀ k, S k ↔ k = b ∨ ∃ i j, T i j k) ∧ (∀ i j, ¬ T i j b) ∧ (∀ i j i' j' k, T i j k → T i' j' k → i = i' ∧ j = j') := by
  cases h with
  | nil => exact (hne.elim (fun e => e rfl) fun ⟨_, e⟩ => e).elim
  | n had cs E g T hb hcap hsz hlen hg hr hT hS hd hd2 => exact ⟨_, _, cs, E, g, T, had, hb, hcap, hsz, hlen, hg, hr, hT, hS, hd, hd2⟩

theorem TR.vsub {c : Cx} {refs : List Nat} {S : Nat → Prop} {u : Value} {x : V} (h : TR c refs S u (.v x)) : ∀ b, ¬ S b := by
  cases h with
  | v h1 h => exact fun _ e => e

theorem TR.val {c : Cx} {refs : List Nat} {S : Nat → Prop} {u : Value} {x : V} (h : TR c refs S u (.v x)) : RV (c.only refs) u x := by
  cases h with
  | v h1 h => exact h

/-- From one heap to another, in the same memory. -/
def Step (xs : List V) (H H' : Heap) : Prop :=
  ∀ (w : World) (β : Nat → Hd) (F : Nat → Prop) (vs : Array Value), HOK w.heap H β F → RVs (cx w.heap H β F) vs xs → ∃ β', Adv F w H β w H' β'

theorem Step.refl (xs : List V) (H : Heap) : Step xs H H := fun w β F vs hk hr => ⟨β, hk, .refl _, .refl _ _⟩

theorem RVs.mono {c c' : Cx} {vs : Array Value} {xs : List V} (h : RVs c vs xs) (hc : c.le c') : RVs c' vs xs := ⟨h.1, fun i v x hv hx => (h.2 i v x hv hx).mono hc⟩

theorem Step.trans {xs : List V} {H H' H'' : Heap} (h : Step xs H H') (k : Step xs H' H'') : Step xs H H'' := fun w β F vs hk hr => by
  obtain ⟨β', a⟩ := h w β F vs hk hr
  obtain ⟨β'', b⟩ := k w β' F vs a.hok (hr.mono a.le)
  exact ⟨β'', a.trans b⟩

theorem DC.pre {P : Program} {f : FuncId} {xs : List V} {H H1 : Heap} {Q : V → Heap → Prop} (hs : Step xs H H1) (h : DC P f xs H1 Q) : DC P f xs H Q := fun w β F vs hk hr => by
  obtain ⟨β', a⟩ := hs w β F vs hk hr
  refine (h w β' F vs a.hok (hr.mono a.le)).mono fun e w' ⟨r, x, H', β2, h1, h2, h3, h4⟩ => ⟨r, x, H', β2, h1, a.trans h2, h3, h4⟩

theorem RVs.cons' {c : Cx} {v : Value} {x : V} {vs : Array Value} {xs : List V} (h : RV c v x) (hs : RVs c vs xs) : RVs c (#[v] ++ vs) (x :: xs) := by
  refine ⟨by simp [hs.1]; omega, fun i u y h1 h2 => ?_⟩
  cases i with
  | zero => simp [Array.getElem?_append] at h1 h2; subst h1; subst h2; exact h
  | succ i =>
    rw [Array.getElem?_append, if_neg (by simp)] at h1
    exact hs.2 i u y (by simpa using h1) (by simpa using h2)

theorem DC.post {P : Program} {f : FuncId} {xs : List V} {H : Heap} {Q Q' : V → Heap → Prop} (h : DC P f xs H Q) (hq : ∀ x H1, Q x H1 → ∃ H2, Step (x :: xs) H1 H2 ∧ Q' x H2) : DC P f xs H Q' := fun w β F vs hk hr =>
  (h w β F vs hk hr).mono fun e w' ⟨r, x, H', β2, h1, h2, h3, h4⟩ => by
    obtain ⟨H2, hs, hQ⟩ := hq x H' h4
    obtain ⟨β3, a⟩ := hs w' β2 F _ h2.hok (RVs.cons' h3 (hr.mono h2.le))
    exact ⟨r, x, H2, β3, h1, h2.trans a, h3.mono a.le, hQ⟩

abbrev Hd.ws (h : Hd) (S : Nat → Prop) : Hd := ⟨h.b, h.o, h.cap, h.es, h.lo, h.nil, h.tot, S⟩

/-- Rows without slices of their own. -/
def flatC (rows : List (List V)) : List (List Ce) := rows.map fun r => r.map Ce.v

section
variable {w : World} {β : Nat → Hd} {F : Nat → Prop} {H : Heap}

/-- An object told otherwise, at the same place. -/
theorem turn_at {id : Nat} {o o' : O} {S : Nat → Prop} (hk : HOK w.heap H β F) (hid : H[id]? = some o) (hlive : o' ≠ .res) (hown : ∀ b, ownsB (H.set id o') (upd β id ((β id).ws S)) id b → ownsB H β id b)
    (hhd : ∀ g', hdOf (H.set id o') (upd β id ((β id).ws S)) id = some g' → hdOf H β id = some g')
    (hro : (cx w.heap H β F).le (cx w.heap (H.set id o') (upd β id ((β id).ws S)) F) → RO (cx w.heap (H.set id o') (upd β id ((β id).ws S)) F) ((β id).ws S) o') : Adv F w H β w (H.set id o') (upd β id ((β id).ws S)) := by
  obtain ⟨h1, h2, h3⟩ := hk.turn (hp' := w.heap) (o' := o') (h' := ((β id).ws S)) hid (Nat.le_refl _) (fun _ _ _ => rfl)
    (fun b hb => .inl (hown b hb)) hlive (fun g' hg _ => .inl (hhd g' hg)) hro
  exact ⟨h1, h2, .refl _ _⟩

theorem flatC_get {rows : List (List V)} {i : Nat} {row : List Ce} (h : (flatC rows)[i]? = some row) : ∃ r, rows[i]? = some r ∧ row = r.map Ce.v := by
  simp only [flatC, List.getElem?_map, Option.map_eq_some_iff] at h
  obtain ⟨r, h1, h2⟩ := h
  exact ⟨r, h1, h2.symm⟩
theorem flatC_length (rows : List (List V)) : (flatC rows).length = rows.length := by simp [flatC]

theorem adv_toTree {id : Nat} {refs : List Nat} {rows : List (List V)} (hk : HOK w.heap H β F) (hid : H[id]? = some (.mem false refs rows)) (hlo : (β id).lo = 0) : ∃ β', Adv F w H β w (H.set id (.tree refs (flatC rows))) β' := by
  refine ⟨_, turn_at (S := noSub) hk hid (by simp) (fun b hb => ?_) (fun g' hg => ?_) fun hle => ?_⟩
  · unfold ownsB at hb ⊢
    rw [get_set hid, upd_same] at hb
    rw [hid]
    obtain ⟨h1, h2 | h2⟩ := hb
    · exact ⟨h1, h2⟩
    · exact h2.elim
  · unfold hdOf at hg ⊢
    rw [get_set hid, upd_same] at hg
    rw [hid]
    simp only [flatC_length] at hg ⊢
    exact hg
  · rcases hk.ro id _ hid with hr | ⟨q1, q2, q3, q4, q5, cs, E, fr, q6, q7, q8, q9⟩
    · exact .inl ⟨hr.1, by rw [hr.2.1]; rfl, hr.2.2⟩
    · obtain rfl := q7 rfl
      refine .inr ⟨q1, hlo, fun h => h, ?_, fun cs' E' fr' e => ?_⟩
      rotate_left
      · have e2 : w.heap[(β id).b]? = some (.cells cs' E' fr') := e
        have q6' : w.heap[(β id).b]? = some (.cells cs E (0, 0)) := q6
        rw [q6'] at e2
        cases e2
        exact q8
      have key : ∀ (i : Nat) (row : List Ce), (flatC rows)[i]? = some row → ∀ (j : Nat) (x : Ce), row[j]? = some x → ∃ y v, x = .v y ∧ cs[(β id).o + i * (β id).es + j]? = some v ∧ v.oneCell' = true ∧ RV ((cx w.heap H β F).only refs) v y := by
        intro i row hi j x hj
        obtain ⟨r, hr, rfl⟩ := flatC_get hi
        rw [List.getElem?_map, Option.map_eq_some_iff] at hj
        obtain ⟨y, hj, rfl⟩ := hj
        obtain ⟨v, e1, e2, e3⟩ := q9 i r hr (by omega) j y hj
        rw [hlo, Nat.sub_zero] at e1
        exact ⟨y, v, rfl, e1, e2, e3⟩
      have := TR.n (c := cx w.heap (H.set id (.tree refs (flatC rows))) (upd β id ((β id).ws noSub)) F) (refs := refs) (S := fun b => (β id).b = b ∨ noSub b) (ad := ⟨(β id).b, (β id).o, none⟩) (b := (β id).b) (o := (β id).o) (cap := (β id).cap) (es := (β id).es) (rows := flatC rows)
        (fun _ => rfl) cs E (fun i j => (cs[(β id).o + i * (β id).es + j]?).getD undef) (fun _ _ => noSub) q6 (by rw [flatC_length]; omega) q8 (fun i row hi => by
          obtain ⟨r, hr, rfl⟩ := flatC_get hi
          rw [List.length_map]; exact q4 i r hr) (fun i row hi j x hj => by
          obtain ⟨y, v, _, e1, _⟩ := key i row hi j x hj
          rw [e1]; rfl) (fun i row hi j x hj => by
          obtain ⟨y, v, rfl, e1, e2, e3⟩ := key i row hi j x hj
          rw [e1]; exact .v e2 (e3.mono (hle.only _))) (fun i j k h => h.elim) (fun k => ⟨fun h => h.elim (fun e => .inl e.symm) fun e => e.elim, fun h => h.elim (fun e => .inl e.symm) fun ⟨_, _, e⟩ => e.elim⟩) (fun i j h => h) fun i j i' j' k h => h.elim
      exact this

theorem adv_toMem {id : Nat} {refs : List Nat} {rows : List (List V)} (hk : HOK w.heap H β F) (hid : H[id]? = some (.tree refs (flatC rows))) : ∃ β', Adv F w H β w (H.set id (.mem false refs rows)) β' := by
  refine ⟨_, turn_at (S := noSub) hk hid (by simp) (fun b hb => ?_) (fun g' hg => ?_) fun hle => ?_⟩
  · unfold ownsB at hb ⊢
    rw [get_set hid, upd_same] at hb
    rw [hid]
    exact ⟨hb.1, .inl hb.2⟩
  · unfold hdOf at hg ⊢
    rw [get_set hid, upd_same] at hg
    rw [hid]
    simp only [flatC_length]
    exact hg
  · rcases hk.ro id _ hid with hr | ⟨q1, q2, q3, q4, q5⟩
    · exact .inl ⟨hr.1, by have := hr.2.1; simpa [flatC] using this, hr.2.2⟩
    · obtain ⟨b, o, cs, E, g, T, had, hb, hcap, hsz, hlen, hg, hr, hT, hS', hd, hd2⟩ := q4.inv (.inr ⟨_, .inl rfl⟩)
      have hbb : (β id).b = b := by
        rcases (hS' (β id).b).1 (.inl rfl) with e | ⟨i, j, e⟩
        · exact e
        · obtain ⟨row, x, hi, hj⟩ := hT _ _ _ e
          obtain ⟨r, h1, rfl⟩ := flatC_get hi
          rw [List.getElem?_map, Option.map_eq_some_iff] at hj
          obtain ⟨y, hj, rfl⟩ := hj
          have := hr _ _ hi j (.v y) (by rw [List.getElem?_map, hj]; rfl)
          exact ((this.vsub _) e).elim
      have hb' : (cx w.heap (H.set id (.mem false refs rows)) (upd β id ((β id).ws noSub)) F).hp[(β id).b]? = some (.cells cs E (0, 0)) := by rw [hbb]; exact hb
      have hcap' : rows.length - (β id).lo ≤ (β id).cap := by rw [flatC_length] at hcap; omega
      have hlo' : (β id).lo ≤ rows.length := by omega
      refine .inr ⟨q1, hlo', hcap', fun i row hi => ?_, fun e => absurd e (by decide), cs, E, (0, 0), hb', fun _ => rfl, q5 _ _ _ hb', fun i row hi _ j x hj => ?_⟩
      · have := hlen i (row.map Ce.v) (by simp [flatC, hi])
        rwa [List.length_map] at this
      · have hi' : (flatC rows)[i]? = some (row.map Ce.v) := by simp [flatC, hi]
        have hj' : (row.map Ce.v)[j]? = some (.v x) := by rw [List.getElem?_map, hj]; rfl
        have h1 := hg i _ hi' j _ hj'
        have h2 := hr i _ hi' j _ hj'
        have hlt : 0 < (β id).cap := by have := lt_of_get hi'; omega
        have ho : (β id).o = o := by have := had hlt; injection this
        refine ⟨g i j, by show cs[(β id).o + (i - (β id).lo) * (β id).es + j]? = _; rw [q2, ho, Nat.sub_zero]; exact h1, h2.one, ?_⟩
        exact h2.val.mono (hle.only _)
end
end Go.Abs
