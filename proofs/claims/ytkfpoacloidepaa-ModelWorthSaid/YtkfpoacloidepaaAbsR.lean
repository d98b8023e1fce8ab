import Derived.Test.YtkfpoacloidepaaAbsQ
import Derived.Orders
set_option linter.all false
/- Regions, in the order of the text. -/
namespace Go.Abs
set_option linter.unusedVariables false

inductive It where
  | g (i : I)                                                  -- of ours
  | o (j : Nat) (i : I)                                        -- operation j
  | gd (j s : Nat) (want : Bool) (d : Option Nat) (i : I)      -- operation j, if slot s is so
  deriving Inhabited

def vcIts (P : Program) : List It → (St → Prop) → St → Prop
  | [], k, st => k st
  | .g i :: l, k, st => i.vc P (vcIts P l k) st
  | .o _ i :: l, k, st => i.vc P (vcIts P l k) st
  | .gd _ s want d i :: l, k, st =>
    match gt st.sl s with
    | .a (.bool b) => (b = want → i.vc P (vcIts P l k) { st with sl := up st.sl s (.bool want) }) ∧ (b = !want → vcIts P l k ({ st with sl := up st.sl s (.bool !want) }.put d (.a undef)))
    | .a (.tuple _) => vcIts P l k (st.put d (.a undef))
    | _ => False

/-- How many operations ahead make memory. -/
def makes : Op → Bool
  | .alloc _ | .box .. | .buildSlice .. | .makeSlice .. | .makeMap .. | .range .. => true
  | .call c => match c.callee with
    | .builtin b => isApp b
    | _ => false
  | _ => false

def resOf (ops : Array Oper) (j : Nat) : Nat := ((ops.toList.take j).filter fun o => makes o.op).length

def isStore : Op → Bool
  | .store .. => true
  | _ => false

def dstOk (N : Nat) (o : Oper) : Bool :=
  match o.dst with
  | some d => decide (d < N) && !isStore o.op
  | none => true

def MatchIts (P : Program) (N : Nat) (ops : Array Oper) : List It → List Nat → Prop
  | [], [] => True
  | .g i :: l, js => i.ghost = true ∧ MatchIts P N ops l js
  | .o j i :: l, j' :: js => j = j' ∧ (∃ o ap, ops[j]? = some o ∧ o.guard = none ∧ (cmpI P o (resOf ops j) ap = some i ∨ ∃ b, cmpM b o = some i) ∧ dstOk N o = true) ∧ MatchIts P N ops l js
  | .gd j s want d i :: l, j' :: js => j = j' ∧ (∃ o ap gj, ops[j]? = some o ∧ o.guard = some (gj, want) ∧ (ops[gj]?).bind (·.dst) = some s ∧ s < N ∧ o.dst = d ∧ (cmpI P o (resOf ops j) ap = some i ∨ ∃ b, cmpM b o = some i) ∧ dstOk N o = true) ∧ MatchIts P N ops l js
  | _, _ => False

section
variable {P : Program} {N : Nat} {F : Nat → Prop}

theorem dstOk_lt {o : Oper} (h : dstOk N o = true) : ∀ t, o.dst = some t → t < N := by
  intro t e
  unfold dstOk at h
  rw [e] at h
  simp at h
  exact h.1

theorem dstOk_st {o : Oper} (h : dstOk N o = true) : (∃ t x v, o.op = .store t x v) → o.dst = none := by
  rintro ⟨t, x, v, e⟩
  unfold dstOk at h
  cases hd : o.dst with
  | none => rfl
  | some d => rw [hd, e] at h; simp [isStore] at h

theorem yielded_bool {ops : Array Oper} {w : World} {β : Nat → Hd} {st : St} {a : Act} {gj s : Nat} (hR : Rel w β F N st a) (hs : (ops[gj]?).bind (·.dst) = some s) (hN : s < N) :
    (∀ b, gt st.sl s = .a (.bool b) → yielded ops a.tmps gj = some b) ∧ (∀ t, gt st.sl s = .a (.tuple t) → yielded ops a.tmps gj = none) := by
  have hx := hR.sl s
  have h0 : a.tmps[s]? = some (a.tmps.getD s undef) := by
    simp [Array.getD, hR.sz, hN]
  constructor
  · intro b e
    rw [e] at hx
    have := hx.of_a
    rw [this] at h0
    unfold yielded
    rw [hs]
    simp [h0]
  · intro t e
    rw [e] at hx
    have := hx.of_a
    rw [this] at h0
    unfold yielded
    rw [hs]
    simp [h0]

theorem its_sound {ops : Array Oper} {Q : Exit → Act → World → Prop} : ∀ (l : List It) (js : List Nat), MatchIts P N ops l js → ∀ (w : World) (β : Nat → Hd) (st : St) (a : Act) (k : St → Prop), Rel w β F N st a → vcIts P l k st →
    (∀ a' w' β' st', Adv F w st.hp β w' st'.hp β' → Rel w' β' F N st' a' → st.hp.length ≤ st'.hp.length → k st' → Q .normal a' w') → wpOps P ops Q js a w := by
  intro l
  induction l with
  | nil =>
    intro js hm w β st a k hR h hQ
    cases js with
    | nil => exact hQ a w β st ⟨hR.hok, .refl _, .refl _ _⟩ hR (Nat.le_refl _) h
    | cons j js => exact hm.elim
  | cons it l ih =>
    intro js hm w β st a k hR h hQ
    cases it with
    | g i =>
      obtain ⟨hg, hm⟩ := hm
      obtain ⟨β', st', ⟨adv, hR', hl⟩, hk⟩ := sound_ghost hg hR (k := vcIts P l k) h
      exact ih js hm w β' st' a k hR' hk fun a' w' β'' st'' adv' hR'' hl' hk' => hQ a' w' β'' st'' (adv.trans adv') hR'' (Nat.le_trans hl hl') hk'
    | o j i =>
      cases js with
      | nil => exact hm.elim
      | cons j' js =>
        obtain ⟨rfl, ⟨o, ap, ho, hgu, hc, hd⟩, hm⟩ := hm
        simp only [wpOps, ho]
        rw [if_pos (by simp [Region.wanted, hgu])]
        refine .inl ?_
        have := I.soundM hR hc (dstOk_lt hd) (dstOk_st hd) (k := vcIts P l k) h Q
        refine Oper.wp_mono (fun a' w' hT => ?_) this
        obtain ⟨β', st', ⟨adv, hR', hl⟩, hk⟩ := hT
        exact ih js hm w' β' st' a' k hR' hk fun a'' w'' β'' st'' adv' hR'' hl' hk' => hQ a'' w'' β'' st'' (adv.trans adv') hR'' (Nat.le_trans hl hl') hk'
    | gd j s want d i =>
      cases js with
      | nil => exact hm.elim
      | cons j' js =>
        obtain ⟨rfl, ⟨o, ap, gj, ho, hgu, hs, hN, hdst, hc, hd⟩, hm⟩ := hm
        obtain ⟨y1, y2⟩ := yielded_bool hR hs hN
        simp only [wpOps, ho]
        simp only [vcIts] at h
        split at h
        · next b e =>
          obtain ⟨h1, h2⟩ := h
          have hy := y1 b e
          have hR2 : Rel w β F N { st with sl := up st.sl s (.bool b) } a := hR.slot (by have := hR.sl s; rw [e] at this; exact this)
          by_cases hb : b = want
          · subst hb
            rw [if_pos (by simp [Region.wanted, hgu, hy])]
            refine .inl ?_
            have := I.soundM hR2 hc (dstOk_lt hd) (dstOk_st hd) (k := vcIts P l k) (h1 rfl) Q
            refine Oper.wp_mono (fun a' w' hT => ?_) this
            obtain ⟨β', st', ⟨adv, hR', hl⟩, hk⟩ := hT
            exact ih js hm w' β' st' a' k hR' hk fun a'' w'' β'' st'' adv' hR'' hl' hk' => hQ a'' w'' β'' st'' (adv.trans adv') hR'' (Nat.le_trans hl hl') hk'
          · have hb' : b = !want := by cases b <;> cases want <;> simp_all
            rw [if_neg (by simp [Region.wanted, hgu, hy, hb])]
            subst hb'
            have hR3 := hR2.put (dstOk_lt hd) (v := undef) (x := .a undef) .a
            rw [hdst] at hR3 ⊢
            exact ih js hm w β _ _ k hR3 (h2 rfl) fun a'' w'' β'' st'' adv' hR'' hl' hk' => hQ a'' w'' β'' st'' (by rw [put_hp] at adv'; exact adv') hR'' (by rw [put_hp] at hl'; exact hl') hk'
        · next t e =>
          have hy := y2 t e
          rw [if_neg (by simp [Region.wanted, hgu, hy])]
          have hR3 := hR.put (dstOk_lt hd) (v := undef) (x := .a undef) .a
          rw [hdst] at hR3 ⊢
          exact ih js hm w β _ _ k hR3 h fun a'' w'' β'' st'' adv' hR'' hl' hk' => hQ a'' w'' β'' st'' (by rw [put_hp] at adv'; exact adv') hR'' (by rw [put_hp] at hl'; exact hl') hk'
        · exact h.elim

end
end Go.Abs
