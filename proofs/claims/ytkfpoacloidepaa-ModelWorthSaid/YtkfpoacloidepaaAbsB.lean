import Derived.Test.YtkfpoacloidepaaAbsA
set_option linter.all false
/- Abstract heaps, and how they lie in memory. -/
namespace Go.Abs

inductive O where
  | res                                                        -- a number kept free
  | dead                                                       -- nothing is known any more
  | mem (fz : Bool) (refs : List Nat) (rows : List (List V))   -- rows of cells; fz: never written again; refs: the objects that its cells may name
  | map (fz : Bool) (refs : List Nat) (es : List (V × V))
  | sit (s : ByteArray) (pos : Nat)                            -- a walk over a string
  deriving Inhabited

abbrev Heap := List O

def O.alive : O → Bool
  | .mem .. | .map .. | .sit .. => true
  | _ => false

def hdOf (H : Heap) (β : Nat → Hd) (id : Nat) : Option Hd :=
  match H[id]? with
  | some (.mem _ _ rows) => some ((β id).wt rows.length)
  | some (.map _ _ _) => some ((β id).wt 0)
  | some (.sit _ _) => some ((β id).wt 0)
  | _ => none

/-- Does object id lie in block b, and may be written? -/
def ownsB (H : Heap) (β : Nat → Hd) (id b : Nat) : Prop :=
  match H[id]? with
  | some (.mem false _ _) => (β id).nil = false ∧ (β id).b = b
  | some (.map false _ _) => (β id).b = b
  | some (.sit _ _) => (β id).b = b
  | _ => False

def owned (H : Heap) (β : Nat → Hd) (b : Nat) : Prop := ∃ id, ownsB H β id b

def liveIn (H : Heap) (id : Nat) : Prop := ∃ o, H[id]? = some o ∧ o ≠ .res

/-- F: blocks that are others'. -/
def cx (hp : Array Obj) (H : Heap) (β : Nat → Hd) (F : Nat → Prop) : Cx := { hp, own := fun b => owned H β b ∨ F b, live := liveIn H, hd := hdOf H β }

/-- How an object's rows lie in memory. -/
def RO (c : Cx) (h : Hd) : O → Prop
  | .res | .dead => True
  | .mem fz refs rows =>
    (h.nil = true ∧ rows = [] ∧ h.lo = 0) ∨
    (h.nil = false ∧ h.lo ≤ rows.length ∧ rows.length - h.lo ≤ h.cap ∧ (∀ (i : Nat) (row : List V), rows[i]? = some row → row.length = h.es) ∧
      (fz = true → ¬ c.own h.b) ∧
      ∃ cs E fr, c.hp[h.b]? = some (.cells cs E fr) ∧ (fz = false → fr = (0, 0)) ∧ h.o + h.cap * h.es ≤ cs.size ∧
        ∀ (i : Nat) (row : List V), rows[i]? = some row → h.lo ≤ i → ∀ (j : Nat) (x : V), row[j]? = some x →
          ∃ v, cs[h.o + (i - h.lo) * h.es + j]? = some v ∧ v.oneCell' = true ∧ RV (c.only refs) v x)
  | .map fz refs es =>
    (fz = true → ¬ c.own h.b) ∧
    ∃ ents clock, c.hp[h.b]? = some (.map ents clock) ∧ ents.size = es.length ∧
      clock = ents.size ∧ (∀ (i : Nat) (e : MapEntry), ents[i]? = some e → e.born = i) ∧
      (∀ (i : Nat) (e : MapEntry) (x : V × V), ents[i]? = some e → es[i]? = some x → RV (c.only []) e.key x.1 ∧ RV (c.only refs) e.val x.2)
  | .sit s pos => h.lo = 0 ∧ h.o = 0 ∧ h.es = 0 ∧ h.nil = false ∧ c.hp[h.b]? = some (.stringIter s pos)

structure HOK (hp : Array Obj) (H : Heap) (β : Nat → Hd) (F : Nat → Prop) : Prop where
  ro : ∀ id o, H[id]? = some o → RO (cx hp H β F) (β id) o
  one : ∀ id id' b, ownsB H β id b → ownsB H β id' b → id = id'
  far : ∀ b, F b → b < hp.size ∧ ¬ owned H β b

theorem RO.mono {c c' : Cx} {h : Hd} {o : O} (hr : RO c h o) (hc : c.le c') (hb : c'.hp[h.b]? = c.hp[h.b]?) (hf : ¬ c.own h.b → ¬ c'.own h.b) : RO c' h o := by
  cases o with
  | res => trivial
  | dead => trivial
  | mem fz refs rows =>
    rcases hr with hr | ⟨h1, h2, h3, h4, h5, cs, E, fr, h6, h7, h8, h9⟩
    · exact .inl hr
    · refine .inr ⟨h1, h2, h3, h4, fun e => hf (h5 e), cs, E, fr, hb.trans h6, h7, h8, fun i row hi hlo j x hj => ?_⟩
      obtain ⟨v, e, q, r⟩ := h9 i row hi hlo j x hj
      exact ⟨v, e, q, r.mono (hc.only refs)⟩
  | map fz refs es =>
    obtain ⟨h1, ents, clock, h2, h3, h4, h5, h6⟩ := hr
    refine ⟨fun e => hf (h1 e), ents, clock, hb.trans h2, h3, h4, h5, fun i e x he hx => ?_⟩
    exact ⟨(h6 i e x he hx).1.mono (hc.only []), (h6 i e x he hx).2.mono (hc.only refs)⟩
  | sit s pos =>
    obtain ⟨h1, h2, h3, h4, h5⟩ := hr
    exact ⟨h1, h2, h3, h4, hb.trans h5⟩

/-- What a run keeps: blocks that may not be written, and the streams. -/
structure WExt (own : Nat → Prop) (w w' : World) : Prop where
  os : w'.os = w.os
  tape : w'.tape = w.tape
  output : w'.output = w.output
  size : w.heap.size ≤ w'.heap.size
  block : ∀ b, b < w.heap.size → ¬ own b → w'.heap[b]? = w.heap[b]?

theorem WExt.refl (own : Nat → Prop) (w : World) : WExt own w w := ⟨rfl, rfl, rfl, Nat.le_refl _, fun _ _ _ => rfl⟩

theorem WExt.trans {own own' : Nat → Prop} {w w' w'' : World} (h : WExt own w w') (h' : WExt own' w' w'') (ho : ∀ b, own' b → own b ∨ w.heap.size ≤ b) : WExt own w w'' := by
  refine ⟨h'.os.trans h.os, h'.tape.trans h.tape, h'.output.trans h.output, Nat.le_trans h.size h'.size, fun b hb hn => ?_⟩
  rw [h'.block b (Nat.lt_of_lt_of_le hb h.size) fun e => ?_]
  · exact h.block b hb hn
  · rcases ho b e with e | e
    · exact hn e
    · omega

theorem WExt.drew {own : Nat → Prop} {w : World} (n : Nat) : WExt own w { w with drawn := n } := ⟨rfl, rfl, rfl, Nat.le_refl _, fun _ _ _ => rfl⟩

def upd (β : Nat → Hd) (id : Nat) (h : Hd) : Nat → Hd := fun i => if i = id then h else β i

theorem upd_same (β : Nat → Hd) (id : Nat) (h : Hd) : upd β id h id = h := by simp [upd]
theorem upd_ne (β : Nat → Hd) {id i : Nat} (h : Hd) (hn : i ≠ id) : upd β id h i = β i := by simp [upd, hn]

theorem getElem?_set_ne' {α : Type} {l : List α} {i k : Nat} {x : α} (h : k ≠ i) : (l.set i x)[k]? = l[k]? := by
  rw [List.getElem?_set_ne]; exact fun e => h e.symm

theorem ownsB_set_ne {H : Heap} {β : Nat → Hd} {id k b : Nat} {o : O} {h : Hd} (hk : k ≠ id) : ownsB (H.set id o) (upd β id h) k b ↔ ownsB H β k b := by
  unfold ownsB; rw [getElem?_set_ne' hk, upd_ne β h hk]

theorem hdOf_set_ne {H : Heap} {β : Nat → Hd} {id k : Nat} {o : O} {h : Hd} (hk : k ≠ id) : hdOf (H.set id o) (upd β id h) k = hdOf H β k := by
  unfold hdOf; rw [getElem?_set_ne' hk, upd_ne β h hk]

theorem lt_of_get {α : Type} {l : List α} {i : Nat} {x : α} (h : l[i]? = some x) : i < l.length := (List.getElem?_eq_some_iff.1 h).1

theorem get_set {α : Type} {l : List α} {i : Nat} {x y : α} (h : l[i]? = some x) : (l.set i y)[i]? = some y := by
  rw [List.getElem?_set_self (lt_of_get h)]

theorem hp_lt {hp : Array Obj} {b : Nat} {o : Obj} (h : hp[b]? = some o) : b < hp.size := (Array.getElem?_eq_some_iff.1 h).1

/-- A block that an object lies in is there. -/
theorem HOK.lt {hp : Array Obj} {H : Heap} {β : Nat → Hd} {F : Nat → Prop} (h : HOK hp H β F) {b : Nat} (ho : owned H β b) : b < hp.size := by
  obtain ⟨id, ho⟩ := ho
  unfold ownsB at ho
  cases hid : H[id]? with
  | none => simp [hid] at ho
  | some o =>
    have hr := h.ro id o hid
    rw [hid] at ho
    cases o with
    | res => exact ho.elim
    | dead => exact ho.elim
    | mem fz refs rows =>
      cases fz with
      | true => exact ho.elim
      | false =>
        obtain ⟨h1, rfl⟩ := ho
        rcases hr with hr | ⟨_, _, _, _, _, cs, E, fr, h6, _⟩
        · rw [hr.1] at h1; cases h1
        · exact hp_lt h6
    | map fz refs es =>
      cases fz with
      | true => exact ho.elim
      | false =>
        subst ho
        obtain ⟨_, ents, clock, h2, _⟩ := hr
        exact hp_lt h2
    | sit s pos =>
      subst ho
      exact hp_lt hr.2.2.2.2

/-- One object turns, and memory with it. -/
theorem HOK.turn {hp hp' : Array Obj} {H : Heap} {β : Nat → Hd} {F : Nat → Prop} {id : Nat} {o o' : O} {h' : Hd} (hk : HOK hp H β F) (hid : H[id]? = some o)
    (hsize : hp.size ≤ hp'.size)
    (hsame : ∀ b, b < hp.size → ¬ ownsB H β id b → hp'[b]? = hp[b]?)
    (hnew : ∀ b, ownsB (H.set id o') (upd β id h') id b → ownsB H β id b ∨ hp.size ≤ b)
    (hlive : o' ≠ .res)
    (hhd : ∀ g', hdOf (H.set id o') (upd β id h') id = some g' → o ≠ .res → hdOf H β id = some g' ∨ ∃ g, hdOf H β id = some g ∧ g.tot < g'.tot)
    (hro : (cx hp H β F).le (cx hp' (H.set id o') (upd β id h') F) → RO (cx hp' (H.set id o') (upd β id h') F) h' o') :
    HOK hp' (H.set id o') (upd β id h') F ∧ (cx hp H β F).le (cx hp' (H.set id o') (upd β id h') F) ∧
      ∀ b, owned (H.set id o') (upd β id h') b → owned H β b ∨ hp.size ≤ b := by
  have hown : ∀ b, owned (H.set id o') (upd β id h') b → owned H β b ∨ hp.size ≤ b := by
    rintro b ⟨k, hb⟩
    by_cases hki : k = id
    · subst hki
      exact (hnew b hb).imp (fun e => ⟨k, e⟩) fun e => e
    · exact .inl ⟨k, (ownsB_set_ne hki).1 hb⟩
  have hle : (cx hp H β F).le (cx hp' (H.set id o') (upd β id h') F) := by
    refine ⟨hsize, fun b hb hn => ⟨hsame b hb fun e => hn (.inl ⟨id, e⟩), fun e => ?_⟩, fun k hl => ?_, fun k g' hl hg => ?_⟩
    · rcases e with e | e
      · rcases hown b e with e | e
        · exact hn (.inl e)
        · have : hp.size ≤ b := e
          have : b < hp.size := hb
          omega
      · exact hn (.inr e)
    · obtain ⟨q, hq, hq2⟩ := hl
      by_cases hki : k = id
      · subst hki
        exact ⟨o', get_set hid, hlive⟩
      · exact ⟨q, by rw [getElem?_set_ne' hki]; exact hq, hq2⟩
    · by_cases hki : k = id
      · subst hki
        obtain ⟨q, hq, hq2⟩ := hl
        rw [hid] at hq
        injection hq with hq
        exact hhd g' hg (hq ▸ hq2)
      · have hg' : hdOf (H.set id o') (upd β id h') k = some g' := hg
        rw [hdOf_set_ne hki] at hg'
        exact .inl hg'
  refine ⟨⟨fun k q hq => ?_, fun k k' b h1 h2 => ?_, fun b hb => ⟨Nat.lt_of_lt_of_le (hk.far b hb).1 hsize, fun e => ?_⟩⟩, hle, hown⟩
  · by_cases hki : k = id
    · subst hki
      rw [get_set hid] at hq
      injection hq with hq
      subst hq
      rw [upd_same]
      exact hro hle
    · rw [getElem?_set_ne' hki] at hq
      rw [upd_ne β h' hki]
      have hr := hk.ro k q hq
      have hblk : q.alive = true → (∀ fz refs rows, q = .mem fz refs rows → (β k).nil = false) → hp'[(β k).b]? = hp[(β k).b]? := by
        intro ha hnn
        by_cases hof : ownsB H β k (β k).b
        · refine hsame _ (hk.lt ⟨k, hof⟩) fun e => hki (hk.one _ _ _ hof e)
        · have hlt : (β k).b < hp.size ∧ ¬ ownsB H β id (β k).b := by
            cases q with
            | res => cases ha
            | dead => cases ha
            | mem fz refs rows =>
              have hn := hnn _ _ _ rfl
              rcases hr with hr | ⟨_, _, _, _, h5, cs, E, fr, h6, _⟩
              · rw [hr.1] at hn; cases hn
              · cases fz with
                | false => exact (hof (by unfold ownsB; rw [hq]; exact ⟨hn, rfl⟩)).elim
                | true => exact ⟨hp_lt h6, fun e => h5 rfl (.inl ⟨id, e⟩)⟩
            | map fz refs es =>
              obtain ⟨h1, ents, clock, h2, _⟩ := hr
              cases fz with
              | false => exact (hof (by unfold ownsB; rw [hq])).elim
              | true => exact ⟨hp_lt h2, fun e => h1 rfl (.inl ⟨id, e⟩)⟩
            | sit s pos => exact (hof (by unfold ownsB; rw [hq])).elim
          exact hsame _ hlt.1 hlt.2
      cases q with
      | res => trivial
      | dead => trivial
      | mem fz refs rows =>
        by_cases hn : (β k).nil = true
        · rcases hr with hr | ⟨h1, _⟩
          · exact .inl hr
          · rw [h1] at hn; cases hn
        · have hn' : (β k).nil = false := by simpa using hn
          have hb := hblk rfl fun _ _ _ _ => hn'
          refine hr.mono hle hb fun hno => ?_
          have : (β k).b < hp.size := by
            rcases hr with hr | ⟨_, _, _, _, h5, cs, E, fr, h6, _⟩
            · rw [hr.1] at hn; simp at hn
            · exact hp_lt h6
          exact (hle.same _ this hno).2
      | map fz refs es =>
        have hb := hblk rfl fun _ _ _ e => by cases e
        refine hr.mono hle hb fun hno => ?_
        obtain ⟨h1, ents, clock, h2, _⟩ := hr
        exact (hle.same _ (hp_lt h2) hno).2
      | sit s pos =>
        have hb := hblk rfl fun _ _ _ e => by cases e
        refine hr.mono hle hb fun hno => ?_
        exact (hle.same _ (hp_lt hr.2.2.2.2) hno).2
  · by_cases h1i : k = id <;> by_cases h2i : k' = id
    · rw [h1i, h2i]
    · exfalso
      subst h1i
      have h2' := (ownsB_set_ne h2i).1 h2
      rcases hnew b h1 with e | e
      · exact h2i (hk.one _ _ _ h2' e)
      · have := hk.lt ⟨k', h2'⟩; omega
    · exfalso
      subst h2i
      have h1' := (ownsB_set_ne h1i).1 h1
      rcases hnew b h2 with e | e
      · exact h1i (hk.one _ _ _ h1' e)
      · have := hk.lt ⟨k, h1'⟩; omega
    · exact hk.one _ _ _ ((ownsB_set_ne h1i).1 h1) ((ownsB_set_ne h2i).1 h2)
  · have hf := hk.far b hb
    rcases hown b e with e | e
    · exact hf.2 e
    · omega

end Go.Abs
