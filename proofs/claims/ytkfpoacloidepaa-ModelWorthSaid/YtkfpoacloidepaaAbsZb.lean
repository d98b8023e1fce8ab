import Derived.Test.YtkfpoacloidepaaAbsZ
set_option linter.all false
/- A cut: what stands between two pieces of code. -/
namespace Go.Abs

@[simp] theorem gt_trimS (n : Nat) (l : Sl) (t : Nat) : gt (trimS n l) t = lim n (gt l t) := rfl

theorem vcIts_mono' {P : Program} {K K' : St → Prop} (hk : ∀ s, K s → K' s) : ∀ {l : List It} {st : St}, vcIts P l K st → vcIts P l K' st := by
  intro l
  induction l with
  | nil => intro st h; exact hk _ h
  | cons it l ih =>
    intro st h
    cases it with
    | g i => exact I.vc_mono h fun s => ih
    | o j i => exact I.vc_mono h fun s => ih
    | gd j s want d i =>
      simp only [vcIts] at h ⊢
      split at h
      · next b e => exact ⟨fun hb => I.vc_mono (h.1 hb) fun s => ih, fun hb => ih (h.2 hb)⟩
      · next e => exact ih h
      · exact h.elim

theorem vc_mono {P : Program} : ∀ {c : C} {Q Q' : Ex → St → Prop} {st : St}, (∀ e s, Q e s → Q' e s) → vc P c Q st → vc P c Q' st := by
  intro c
  induction c with
  | skip => intro Q Q' st hq h; exact hq _ _ h
  | reg n its => intro Q Q' st hq h; exact vcIts_mono' (fun s => hq _ s) h
  | seq a b iha ihb =>
    intro Q Q' st hq h
    refine iha (fun e s hs => ?_) h
    cases e with
    | norm => exact ihb hq hs
    | exit i => exact hq _ _ hs
    | ret => exact hq _ _ hs
  | cond x a b iha ihb =>
    intro Q Q' st hq h
    simp only [vc] at h ⊢
    split at h
    · exact ⟨fun ht => iha hq (h.1 ht), fun ht => ihb hq (h.2 ht)⟩
    · exact h.elim
  | block id c ih =>
    intro Q Q' st hq h
    refine ih (fun e s hs => ?_) h
    cases e with
    | norm => exact hq _ _ hs
    | exit i =>
      simp only at hs ⊢
      by_cases hi : i = id
      · rw [if_pos hi] at hs ⊢; exact hq _ _ hs
      · rw [if_neg hi] at hs ⊢; exact hq _ _ hs
    | ret => exact hq _ _ hs
  | loop c ih => intro Q Q' st hq h; exact WI.mono h hq
  | exit i => intro Q Q' st hq h; exact hq _ _ h
  | ret => intro Q Q' st hq h; exact hq _ _ h

theorem vc_cut {P : Program} {a b : C} {Q : Ex → St → Prop} {st : St} (R : St → Prop) (h1 : vc P a (fun e s => match e with | .norm => R s | .exit i => Q (.exit i) s | .ret => Q .ret s) st) (h2 : ∀ s, R s → vc P b Q s) : vc P (.seq a b) Q st := by
  show vc P a _ st
  refine vc_mono (fun e s hs => ?_) h1
  cases e with
  | norm => exact h2 s hs
  | exit i => exact hs
  | ret => exact hs

theorem vcIts_cut {P : Program} {K : St → Prop} {l : List It} {st : St} (n : Nat) (R : St → Prop) (h1 : vcIts P (l.take n) R st) (h2 : ∀ s, R s → vcIts P (l.drop n) K s) : vcIts P l K st := by
  rw [← List.take_append_drop n l, vcIts_append]
  exact vcIts_mono' h2 h1

theorem vc_reg_of {P : Program} {n : Nat} {its : List It} {Q : Ex → St → Prop} {st : St} (h : vcIts P its (Q .norm) (st.res n)) : vc P (.reg n its) Q st := h

theorem vc_block_of {P : Program} {id : Nat} {c : C} {Q : Ex → St → Prop} {st : St} (h : vc P c (fun e s => match e with | .norm => Q .norm s | .exit i => if i = id then Q .norm s else Q (.exit i) s | .ret => Q .ret s) st) : vc P (.block id c) Q st := h
end Go.Abs
