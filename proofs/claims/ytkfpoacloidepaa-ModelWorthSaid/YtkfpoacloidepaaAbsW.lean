import Derived.Test.YtkfpoacloidepaaAbsU
import GoSem.ClaimChange
set_option linter.all false
/- What the row's reading tells, as abstract values. -/
namespace Go.Abs
set_option linter.unusedVariables false

def βz : Nat → Hd := fun _ => ⟨0, 0, 0, 0, 0, false, 0⟩
def cz (w : World) : Cx := cx w.heap [] βz (fun _ => False)

theorem cz_own (w : World) (b : Nat) : ¬ (cz w).own b := by
  rintro (⟨i, e⟩ | e)
  · simp [ownsB] at e
  · exact e

theorem cz_only {w : World} {v : Value} {x : V} (h : RV (cz w) v x) : RV ((cz w).only []) v x :=
  h.mono ⟨Nat.le_refl _, fun _ _ hn => ⟨rfl, hn⟩, fun i hl => by obtain ⟨o, ho, _⟩ := hl; simp at ho, fun _ _ _ e => .inl e⟩

theorem cz_hok (w : World) : HOK w.heap [] βz (fun _ => False) :=
  ⟨fun id o h => by simp at h, fun id id' b h => by simp [ownsB] at h, fun b h => h.elim⟩

/-- What reads as a value of type t is some x's. -/
def Rd (P : Program) (t : TypeId) (n : Nat) {α : Type} (f : α → List V) (ok : α → Prop) : Prop :=
  P.cellsOf t = n ∧ ∀ (H : Type) (enc : TypeId × Value → H) (w : World) (fuel : Nat) (cs : List Value) (d : DataW H) (ps : List MemPlace), DataW.trod enc P w 0 (fun _ => true) true fuel t cs = some (d, ps) →
    ∃ x, ok x ∧ (f x).length = n ∧ cs.length = n ∧ ∀ (i : Nat) (v : Value) (y : V), cs[i]? = some v → (f x)[i]? = some y → v.oneCell' = true ∧ RV (cz w) v y

section
variable {P : Program} {t : TypeId}

theorem one_get {v0 : Value} {y0 : V} {w : World} (h1 : v0.oneCell' = true) (h2 : RV (cz w) v0 y0) : ∀ (i : Nat) (v : Value) (y : V), [v0][i]? = some v → [y0][i]? = some y → v.oneCell' = true ∧ RV (cz w) v y := by
  intro i v y a b
  cases i with
  | zero => simp at a b; subst a; subst b; exact ⟨h1, h2⟩
  | succ i => simp at a

theorem Rd.int {k : IntKind} (hu : P.underlying t = some (.int k)) (hc : P.cellsOf t = 1) : Rd P t 1 (fun n : Int => [.a (.int k n)]) (fun n => (Lit.int k n).wf = true) := by
  refine ⟨hc, fun H enc w fuel cs d ps h => ?_⟩
  cases fuel with
  | zero => simp [DataW.trod] at h
  | succ fuel =>
    unfold DataW.trod at h
    rw [hu] at h
    rcases cs with _ | ⟨v, _ | ⟨v2, cs⟩⟩
    · cases h
    · cases v <;> first | cases h | skip
      next k' n =>
      simp only at h
      split at h
      · next hk =>
        obtain ⟨rfl, hk⟩ := hk
        exact ⟨n, hk, rfl, rfl, one_get rfl .a⟩
      · cases h
    · simp at h

theorem Rd.bool (hu : P.underlying t = some .bool) (hc : P.cellsOf t = 1) : Rd P t 1 (fun b : Bool => [.a (.bool b)]) (fun _ => True) := by
  refine ⟨hc, fun H enc w fuel cs d ps h => ?_⟩
  cases fuel with
  | zero => simp [DataW.trod] at h
  | succ fuel =>
    unfold DataW.trod at h
    rw [hu] at h
    rcases cs with _ | ⟨v, _ | ⟨v2, cs⟩⟩
    · cases h
    · cases v <;> first | cases h | skip
      next b => exact ⟨b, trivial, rfl, rfl, one_get rfl .a⟩
    · simp at h

theorem Rd.str (hu : P.underlying t = some .string) (hc : P.cellsOf t = 1) : Rd P t 1 (fun s : ByteArray => [.a (.string s)]) (fun s => s.size ≤ maxLen) := by
  refine ⟨hc, fun H enc w fuel cs d ps h => ?_⟩
  cases fuel with
  | zero => simp [DataW.trod] at h
  | succ fuel =>
    unfold DataW.trod at h
    rw [hu] at h
    rcases cs with _ | ⟨v, _ | ⟨v2, cs⟩⟩
    · cases h
    · cases v <;> first | cases h | skip
      next s =>
      simp only at h
      split at h
      · next hs => exact ⟨s, hs, rfl, rfl, one_get rfl .a⟩
      · cases h
    · simp at h

theorem cells?_get {w : World} {a : Addr} {n : Nat} {cs : List Value} (h : w.cells? 0 a n = some cs) : cs.length = n ∧ ∀ (i : Nat) (v : Value), cs[i]? = some v → look w.heap a.block (a.off + i) = some v ∧ (i = 0 → a.spot = none) := by
  unfold World.cells? at h
  rw [if_pos (Nat.zero_le _)] at h
  obtain ⟨h1, h2⟩ := mapM_some h
  have hl : cs.length = n := by rw [h1]; simp
  refine ⟨hl, fun i v hv => ?_⟩
  have hi : i < n := by rw [← hl]; exact lt_of_get hv
  obtain ⟨y, hy, hc⟩ := h2 i i (List.getElem?_range hi)
  rw [hv] at hy; injection hy with hy; subst hy
  have hadd : (a.add i).block = a.block ∧ ((a.add i).spot = none → (i = 0 → a.spot = none) ∧ (a.add i).off = a.off + i) := by
    unfold Addr.add
    split
    · next e => subst e; exact ⟨rfl, fun h => ⟨fun _ => h, by simp⟩⟩
    · next e => exact ⟨rfl, fun h => ⟨fun e' => (e e').elim, rfl⟩⟩
  unfold World.cell? at hc
  rw [hadd.1] at hc
  split at hc
  · next c _ _ hb =>
    split at hc
    · cases hc
    · next hs =>
      have hs : (a.add i).spot = none := by simpa using hs
      obtain ⟨g1, g2⟩ := hadd.2 hs
      rw [g2] at hc
      exact ⟨by unfold look; rw [hb]; exact hc, g1⟩
  · cases hc

theorem all_choice {α β : Type} {R : Nat → α → β → Prop} : ∀ (l : List α) (k : Nat), (∀ (i : Nat) (x : α), l[i]? = some x → ∃ y, R (k + i) x y) → ∃ r : List β, r.length = l.length ∧ ∀ (i : Nat) (x : α) (y : β), l[i]? = some x → r[i]? = some y → R (k + i) x y := by
  intro l
  induction l with
  | nil => intro k _; exact ⟨[], rfl, fun i x y h => by simp at h⟩
  | cons a l ih =>
    intro k h
    obtain ⟨y, hy⟩ := h 0 a rfl
    obtain ⟨r, h1, h2⟩ := ih (k + 1) fun i x hx => by
      obtain ⟨y, hy⟩ := h (i + 1) x hx
      exact ⟨y, by rw [show k + 1 + i = k + (i + 1) from by omega]; exact hy⟩
    refine ⟨y :: r, by simp [h1], fun i x z hx hz => ?_⟩
    cases i with
    | zero => simp at hx hz; subst hx; subst hz; exact hy
    | succ i =>
      have := h2 i x z (by simpa using hx) (by simpa using hz)
      rw [show k + (i + 1) = k + 1 + i from by omega]; exact this

theorem Rd.slice {e : TypeId} {n : Nat} {α : Type} {f : α → List V} {ok : α → Prop} (hu : P.underlying t = some (.slice e)) (hc : P.cellsOf t = 1) (hn : 0 < n) (he : Rd P e n f ok) :
    Rd P t 1 (fun l : List α => [.view n (l.map f)]) (fun l => l.length ≤ maxLen ∧ ∀ x ∈ l, ok x) := by
  refine ⟨hc, fun H enc w fuel cs d ps h => ?_⟩
  obtain ⟨hen, hel⟩ := he
  cases fuel with
  | zero => simp [DataW.trod] at h
  | succ fuel =>
    unfold DataW.trod at h
    rw [hu] at h
    rcases cs with _ | ⟨v, _ | ⟨v2, cs⟩⟩
    · cases h
    · cases v <;> first | cases h | skip
      next base len cap =>
      cases base with
      | none =>
        cases len <;> cases cap <;> first | cases h | skip
        exact ⟨[], ⟨Nat.zero_le _, by simp⟩, rfl, rfl, one_get rfl .nilv⟩
      | some a =>
        simp only at h
        split at h
        · next hg =>
          obtain ⟨_, hlc, hcm⟩ := hg
          simp only [Option.bind_eq_some_iff, Option.map_eq_some_iff] at h
          obtain ⟨elems, h1, _⟩ := h
          obtain ⟨g1, g2⟩ := mapM_some h1
          have hlen : elems.length = len := by rw [g1]; simp
          have hall : ∀ (i : Nat) (x : DataW H × List MemPlace), elems[i]? = some x → ∃ y : α, ok y ∧ (f y).length = n ∧ ∀ (j : Nat) (z : V), (f y)[j]? = some z → ∃ v, look w.heap a.block (a.off + (0 + i) * n + j) = some v ∧ (0 + i = 0 → j = 0 → a.spot = none) ∧ v.oneCell' = true ∧ RV (cz w) v z := by
            intro i x hx
            have hi : i < len := by rw [← hlen]; exact lt_of_get hx
            obtain ⟨y, hy, hc⟩ := g2 i i (List.getElem?_range hi)
            rw [hx] at hy; injection hy with hy; subst hy
            rw [Option.bind_eq_some_iff] at hc
            obtain ⟨ci, hci, htr⟩ := hc
            rw [hen] at hci
            obtain ⟨c1, c2⟩ := cells?_get hci
            obtain ⟨y, k1, k2, k3, k4⟩ := hel H enc w fuel ci _ _ htr
            refine ⟨y, k1, k2, fun j z hz => ?_⟩
            have hj : j < ci.length := by rw [k3, ← k2]; exact lt_of_get hz
            have hv := List.getElem?_eq_getElem hj
            obtain ⟨m1, m2⟩ := k4 j _ z hv hz
            obtain ⟨q1, q2⟩ := c2 j _ hv
            have hadd : (a.add (i * n)).block = a.block ∧ (a.add (i * n)).off = a.off + i * n := by
              unfold Addr.add
              split
              · next e => rw [e]; exact ⟨rfl, by simp⟩
              · exact ⟨rfl, rfl⟩
            rw [hadd.1, hadd.2] at q1
            refine ⟨_, by rw [Nat.zero_add]; exact q1, fun e0 e1 => ?_, m1, m2⟩
            have := q2 e1
            rw [show i * n = 0 from by rw [show i = 0 from by omega, Nat.zero_mul]] at this
            unfold Addr.add at this
            simpa using this
          obtain ⟨xs, x1, x2⟩ := all_choice (R := fun i x y => ok y ∧ (f y).length = n ∧ ∀ (j : Nat) (z : V), (f y)[j]? = some z → ∃ v, look w.heap a.block (a.off + i * n + j) = some v ∧ (i = 0 → j = 0 → a.spot = none) ∧ v.oneCell' = true ∧ RV (cz w) v z) elems 0 hall
          have hx : ∀ (i : Nat) (y : α), xs[i]? = some y → ok y ∧ (f y).length = n ∧ ∀ (j : Nat) (z : V), (f y)[j]? = some z → ∃ v, look w.heap a.block (a.off + i * n + j) = some v ∧ (i = 0 → j = 0 → a.spot = none) ∧ v.oneCell' = true ∧ RV (cz w) v z := by
            intro i y hy
            have hi : i < elems.length := by rw [← x1]; exact lt_of_get hy
            have := x2 i _ y (List.getElem?_eq_getElem hi) hy
            rw [Nat.zero_add] at this; exact this
          refine ⟨xs, ⟨by omega, fun y hy => ?_⟩, rfl, rfl, one_get rfl ?_⟩
          · obtain ⟨i, hi⟩ := List.getElem?_of_mem hy
            exact (hx i y hi).1
          · have hrow : ∀ (i : Nat) (row : List V), (xs.map f)[i]? = some row → row.length = n ∧ ∀ (j : Nat) (z : V), row[j]? = some z → ∃ v, look w.heap a.block (a.off + i * n + j) = some v ∧ (i = 0 → j = 0 → a.spot = none) ∧ v.oneCell' = true ∧ RV (cz w) v z := by
              intro i row hi
              rw [List.getElem?_map, Option.map_eq_some_iff] at hi
              obtain ⟨y, hy, rfl⟩ := hi
              exact (hx i y hy).2
            have hl2 : len = (xs.map f).length := by simp [x1, hlen]
            rw [hl2]
            refine .view (fun i j => (look w.heap a.block (a.off + i * n + j)).getD undef) (fun hne => ?_) (by rw [← hl2]; exact hlc) (fun i row hi => (hrow i row hi).1) (fun i row hi j z hz => ?_) fun i row hi j z hz => ?_
            · have h0 : ∃ row, (xs.map f)[0]? = some row := by
                cases hq : xs.map f with
                | nil => exact (hne hq).elim
                | cons r l => exact ⟨r, rfl⟩
              obtain ⟨row, h0⟩ := h0
              obtain ⟨r1, r2⟩ := hrow 0 row h0
              obtain ⟨v, l1, l2, _⟩ := r2 0 _ (List.getElem?_eq_getElem (by omega))
              refine ⟨cz_own w _, ?_, l2 rfl rfl⟩
              unfold look at l1
              split at l1
              · next hb => exact hp_lt hb
              · cases l1
            · obtain ⟨v, l1, _, l3, _⟩ := (hrow i row hi).2 j z hz
              refine ⟨by show look w.heap _ _ = _; rw [l1]; rfl, by rw [l1]; exact l3⟩
            · obtain ⟨v, l1, _, _, l4⟩ := (hrow i row hi).2 j z hz
              rw [l1]; exact cz_only l4
        · cases h
    · simp at h

end
end Go.Abs
