import Derived.Test.YtkfpoacloidepaaAbsS
import Derived.LoopN
set_option linter.all false
/- Loops, functions. -/
namespace Go.Abs
set_option linter.unusedVariables false

section
variable {P : Program}

theorem WI.of_vc {ir : C} {Q : Ex → St → Prop} {st : St} (h : vc P ir Q st) : WI P ir Q st :=
  fun N ann code n0 hc hn => vc_sound code ir Q st hc hn h

theorem WI.mono {ir : C} {Q Q' : Ex → St → Prop} {st : St} (h : WI P ir Q st) (hq : ∀ e s, Q e s → Q' e s) : WI P ir Q' st :=
  fun N ann code n0 hc hn => (h N ann code n0 hc hn).mono hq

theorem ids_lim {n : Nat} {x : V} : ∀ i ∈ (lim n x).ids, i < n := by
  unfold lim
  split
  · next h => intro i hi; simpa using List.all_eq_true.1 h i hi
  · intro i hi; simp [V.ids] at hi

/-- Later objects are forgotten. -/
theorem rel_trim {N n0 n : Nat} {F : Nat → Prop} {w : World} {β : Nat → Hd} {st : St} {a : Act} (hR : Rel w β F N st a) (hn : n0 ≤ n) :
    Lev n0 F w st.hp β w (st.trim n).hp β ∧ Rel w β F N (st.trim n) a := by
  have hk := hR.hok
  have hget : ∀ {id : Nat} {o : O}, ((st.hp.take n).map (limO n))[id]? = some o → id < n ∧ ∃ o', st.hp[id]? = some o' ∧ o = limO n o' := by
    intro id o h
    simp only [List.getElem?_map, Option.map_eq_some_iff] at h
    obtain ⟨o', h, rfl⟩ := h
    rw [List.getElem?_take] at h
    split at h
    · next hlt => exact ⟨hlt, o', h, rfl⟩
    · cases h
  have hown : ∀ id b, ownsB ((st.hp.take n).map (limO n)) β id b → ownsB st.hp β id b := by
    intro id b h
    unfold ownsB at h
    cases h1 : ((st.hp.take n).map (limO n))[id]? with
    | none => rw [h1] at h; exact h.elim
    | some o =>
      obtain ⟨hlt, o', h2, rfl⟩ := hget h1
      rw [h1] at h
      unfold ownsB
      rw [h2]
      unfold limO at h
      split at h
      · next e =>
        split at e
        · injection e with e; subst e; exact h
        · cases e
      · next e =>
        split at e
        · injection e with e; subst e; exact h
        · cases e
      · next e =>
        split at e
        · injection e with e; subst e; exact h
        · cases e
      · exact h.elim
  have hhd : ∀ id g, hdOf ((st.hp.take n).map (limO n)) β id = some g → hdOf st.hp β id = some g := by
    intro id g h
    unfold hdOf at h
    cases h1 : ((st.hp.take n).map (limO n))[id]? with
    | none => rw [h1] at h; cases h
    | some o =>
      obtain ⟨hlt, o', h2, rfl⟩ := hget h1
      rw [h1] at h
      unfold hdOf
      rw [h2]
      unfold limO at h
      split at h
      · next e =>
        split at e
        · injection e with e; subst e; exact h
        · cases e
      · next e =>
        split at e
        · injection e with e; subst e; exact h
        · cases e
      · next e =>
        split at e
        · injection e with e; subst e; exact h
        · cases e
      · cases h
  have hlive : ∀ id, id < n → liveIn st.hp id → liveIn ((st.hp.take n).map (limO n)) id := by
    rintro id hlt ⟨o, h1, h2⟩
    refine ⟨limO n o, ?_, ?_⟩
    · simp [List.getElem?_take, hlt, h1]
    · unfold limO; split
      · exact h2
      · intro e; cases e
  have hle : ∀ refs : List Nat, (∀ i ∈ refs, i < n) → ((cx w.heap st.hp β F).only refs).le ((cx w.heap ((st.hp.take n).map (limO n)) β F).only refs) := by
    intro refs hrefs
    refine ⟨Nat.le_refl _, fun b hb hno => ⟨rfl, fun e => hno ?_⟩, fun id hl => ⟨hl.1, hlive id (hrefs id hl.1) hl.2⟩, fun id g' hl e => .inl (hhd id g' e)⟩
    rcases e with ⟨id, e⟩ | e
    · exact .inl ⟨id, hown id b e⟩
    · exact .inr e
  refine ⟨⟨Nat.le_refl _, fun b hb hno => ⟨rfl, fun e => hno ?_⟩, fun id hi hl => hlive id (Nat.lt_of_lt_of_le hi hn) hl, fun id g' _ _ e => .inl (hhd id g' e), .refl _ _, fun b ⟨id, e⟩ => .inl ⟨id, hown id b e⟩⟩, ⟨⟨fun id o h => ?_, fun id id' b h1 h2 => hk.one id id' b (hown _ _ h1) (hown _ _ h2), fun b hb => ⟨(hk.far b hb).1, fun ⟨id, e⟩ => (hk.far b hb).2 ⟨id, hown _ _ e⟩⟩⟩, fun t => ?_, hR.df, hR.sz⟩⟩
  · rcases e with ⟨id, e⟩ | e
    · exact .inl ⟨id, hown id b e⟩
    · exact .inr e
  · obtain ⟨hlt, o', h2, rfl⟩ := hget h
    have hro := hk.ro id o' h2
    unfold limO
    split
    · next hrefs =>
      have hrefs' : ∀ i ∈ o'.refs, i < n := fun i hi => by simpa using List.all_eq_true.1 hrefs i hi
      have hownb : ∀ b, (cx w.heap ((st.hp.take n).map (limO n)) β F).own b → (cx w.heap st.hp β F).own b := by
        rintro b (⟨id, e⟩ | e)
        · exact .inl ⟨id, hown id b e⟩
        · exact .inr e
      cases o' with
      | res => trivial
      | dead => trivial
      | sit s pos => exact hro
      | mem fz refs rows =>
        rcases hro with hro | ⟨q1, q2, q3, q4, q5, cs, E, fr, q6, q7, q8, q9⟩
        · exact .inl hro
        · refine .inr ⟨q1, q2, q3, q4, fun e k => q5 e (hownb _ k), cs, E, fr, q6, q7, q8, fun i row hi hlo j x hj => ?_⟩
          obtain ⟨v, e1, e2, e3⟩ := q9 i row hi hlo j x hj
          exact ⟨v, e1, e2, e3.mono (hle refs hrefs')⟩
      | map fz refs es =>
        obtain ⟨q1, ents, clock, q2, q3, q4, q5, q6⟩ := hro
        exact ⟨fun e k => q1 e (hownb _ k), ents, clock, q2, q3, q4, q5, fun i e x he hx => ⟨(q6 i e x he hx).1.mono (hle [] (by simp)), (q6 i e x he hx).2.mono (hle refs hrefs')⟩⟩
    · trivial
  · show RV _ _ (lim n (gt st.sl t))
    unfold lim
    split
    · next h =>
      have h' : ∀ i ∈ (gt st.sl t).ids, i < n := fun i hi => by simpa using List.all_eq_true.1 h i hi
      exact (((hR.sl t).onlyOf _ fun i hi => hi).mono (hle _ h')).up
    · exact .any

/-- A loop: what holds at each round's head; what every round lowers. Objects from n on are a round's own. -/
theorem WI.loop {c : C} {Q : Ex → St → Prop} {st : St} (n : Nat) (hn : st.hp.length ≤ n) (I : St → Prop) (μ : St → Nat) (h0 : I st)
    (hr : ∀ s, I s → vc P c (fun e s' => match e with | .norm => I (s'.trim n) ∧ μ (s'.trim n) < μ s | .exit i => Q (.exit i) s' | .ret => Q .ret s') s) : WI P (.loop c) Q st := by
  intro N ann code n0 hc hn0 w β F a hR
  cases code with
  | loop code =>
    simp only [cmpC, Option.map_eq_some_iff, C.loop.injEq] at hc
    obtain ⟨irx, hx, rfl⟩ := hc
    have key : ∀ (m : Nat) (s : St) (w' : World) (β' : Nat → Hd) (a' : Act), I s → μ s ≤ m → Lev n0 F w st.hp β w' s.hp β' → Rel w' β' F N s a' → n0 ≤ s.hp.length →
        Code.rounds P code (Lift N n0 F w st β Q) (m + 1) a' w' := by
      intro m
      induction m with
      | zero =>
        intro s w' β' a' hI hm hL hR' hn'
        refine wp_mono (vc_sound code irx _ s hx hn' (hr s hI) w' β' F a' hR') fun e a2 w2 hL2 => ?_
        obtain ⟨x, β2, s2, rfl, h2, h3, h4, h5⟩ := hL2
        cases x with
        | norm => obtain ⟨_, h5⟩ := h5; omega
        | exit i => exact ⟨.exit i, β2, s2, rfl, hL.trans h2, h3, h4, h5⟩
        | ret => exact ⟨.ret, β2, s2, rfl, hL.trans h2, h3, h4, h5⟩
      | succ m ih =>
        intro s w' β' a' hI hm hL hR' hn'
        refine wp_mono (vc_sound code irx _ s hx hn' (hr s hI) w' β' F a' hR') fun e a2 w2 hL2 => ?_
        obtain ⟨x, β2, s2, rfl, h2, h3, h4, h5⟩ := hL2
        cases x with
        | norm =>
          obtain ⟨h5, h6⟩ := h5
          obtain ⟨t1, t2⟩ := rel_trim h3 (n := n) (n0 := n0) (Nat.le_trans hn0 hn)
          exact ih (s2.trim n) w2 β2 a2 h5 (by omega) ((hL.trans h2).trans t1) t2 (by simp [St.trim]; omega)
        | exit i => exact ⟨.exit i, β2, s2, rfl, hL.trans h2, h3, h4, h5⟩
        | ret => exact ⟨.ret, β2, s2, rfl, hL.trans h2, h3, h4, h5⟩
    exact wp_loop_rounds (μ st + 1) (key (μ st) st w β a h0 (Nat.le_refl _) (Adv.lev ⟨hR.hok, .refl _, .refl _ _⟩) hR hn0)
  | skip => simp [cmpC] at hc
  | region id ops draw =>
    simp only [cmpC] at hc
    split at hc
    · obtain ⟨n, its, h, _⟩ := draw_sound (F := F) (id := id) hc
      cases h
    · simp [cmpReg] at hc
  | seq a b =>
    simp only [cmpC, Option.bind_eq_some_iff, Option.map_eq_some_iff] at hc
    obtain ⟨_, _, _, _, h⟩ := hc
    cases h
  | cond x a b =>
    simp only [cmpC, Option.bind_eq_some_iff, Option.map_eq_some_iff] at hc
    obtain ⟨_, _, _, _, h⟩ := hc
    cases h
  | block id c =>
    simp only [cmpC, Option.map_eq_some_iff] at hc
    obtain ⟨_, _, h⟩ := hc
    cases h
  | _ => simp [cmpC] at hc

end
end Go.Abs
