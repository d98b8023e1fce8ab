import Derived.Test.YtcahkhebjblijaaOb2
import GoSem.ClaimChange
import GoSem.ClaimJoined
import Derived.Below
import Derived.Test.YtcahkhebjblijaaProg
import Derived.KernelRfl
import Derived.Laws.Strings
set_option linter.all false
/- What the row's reading tells, as abstract values. -/
namespace Go.Abs
set_option linter.unusedVariables false

def βz : Nat → Hd := fun _ => ⟨0, 0, 0, 0, 0, false, 0, noSub⟩
def cz (w : World) : Cx := cx w.heap [] βz (fun _ => False)

theorem cz_own (w : World) (b : Nat) : ¬ (cz w).own b := by
  rintro (⟨i, e⟩ | e)
  · simp [ownsB] at e
  · exact e

theorem cz_only {w : World} {v : Value} {x : V} (h : RV (cz w) v x) : RV ((cz w).only []) v x :=
  h.mono ⟨Nat.le_refl _, fun _ _ hn => ⟨rfl, hn⟩, fun i hl => by obtain ⟨o, ho, _⟩ := hl; simp at ho, fun _ _ _ e => .inl e⟩

theorem cz_hok (w : World) : HOK w.heap [] βz (fun _ => False) :=
  ⟨fun id o h => by simp at h, fun id id' b h => by simp [ownsB] at h, fun b h => h.elim⟩

/-- What reads as a value of type t is some x's. -/
def Rd (P : Program) (t : TypeId) (n : Nat) {α : Type} (f : α → List V) (ok : α → Prop) : Prop :=
  P.cellsOf t = n ∧ ∀ (H : Type) (enc : TypeId × Value → H) (w : World) (fuel : Nat) (cs : List Value) (d : DataW H) (ps : List MemPlace), DataW.trod enc P w 0 (fun _ => true) true fuel t cs = some (d, ps) → (∀ q ∈ DataW.weights P t d, q ≤ reachBytes) →
    ∃ x, ok x ∧ (f x).length = n ∧ cs.length = n ∧ ∀ (i : Nat) (v : Value) (y : V), cs[i]? = some v → (f x)[i]? = some y → v.oneCell' = true ∧ RV (cz w) v y

section
variable {P : Program} {t : TypeId}

theorem one_get {v0 : Value} {y0 : V} {w : World} (h1 : v0.oneCell' = true) (h2 : RV (cz w) v0 y0) : ∀ (i : Nat) (v : Value) (y : V), [v0][i]? = some v → [y0][i]? = some y → v.oneCell' = true ∧ RV (cz w) v y := by
  intro i v y a b
  cases i with
  | zero => simp at a b; subst a; subst b; exact ⟨h1, h2⟩
  | succ i => simp at a

theorem Rd.int {k : IntKind} (hu : P.underlying t = some (.int k)) (hc : P.cellsOf t = 1) : Rd P t 1 (fun n : Int => [.a (.int k n)]) (fun n => (Lit.int k n).wf = true) := by
  refine ⟨hc, fun H enc w fuel cs d ps h hwt => ?_⟩
  cases fuel with
  | zero => simp [DataW.trod] at h
  | succ fuel =>
    unfold DataW.trod at h
    rw [hu] at h
    rcases cs with _ | ⟨v, _ | ⟨v2, cs⟩⟩
    · cases h
    · cases v <;> first | cases h | skip
      next k' n =>
      simp only at h
      split at h
      · next hk =>
        obtain ⟨rfl, hk⟩ := hk
        exact ⟨n, hk, rfl, rfl, one_get rfl .a⟩
      · cases h
    · simp at h

theorem Rd.bool (hu : P.underlying t = some .bool) (hc : P.cellsOf t = 1) : Rd P t 1 (fun b : Bool => [.a (.bool b)]) (fun _ => True) := by
  refine ⟨hc, fun H enc w fuel cs d ps h hwt => ?_⟩
  cases fuel with
  | zero => simp [DataW.trod] at h
  | succ fuel =>
    unfold DataW.trod at h
    rw [hu] at h
    rcases cs with _ | ⟨v, _ | ⟨v2, cs⟩⟩
    · cases h
    · cases v <;> first | cases h | skip
      next b => exact ⟨b, trivial, rfl, rfl, one_get rfl .a⟩
    · simp at h

theorem Rd.str (hu : P.underlying t = some .string) (hc : P.cellsOf t = 1) : Rd P t 1 (fun s : ByteArray => [.a (.string s)]) (fun s => s.size ≤ maxLen ∧ s.size ≤ reachBytes) := by
  refine ⟨hc, fun H enc w fuel cs d ps h hwt => ?_⟩
  cases fuel with
  | zero => simp [DataW.trod] at h
  | succ fuel =>
    unfold DataW.trod at h
    rw [hu] at h
    rcases cs with _ | ⟨v, _ | ⟨v2, cs⟩⟩
    · cases h
    · cases v <;> first | cases h | skip
      next s =>
      simp only at h
      split at h
      · next hs =>
        injection h with h
        injection h with h1 h2
        subst h1
        exact ⟨s, ⟨hs, by have := hwt s.data.toList.length (by simp [DataW.weights]); simpa using this⟩, rfl, rfl, one_get rfl .a⟩
      · cases h
    · simp at h

theorem cells?_get {w : World} {a : Addr} {n : Nat} {cs : List Value} (h : w.cells? 0 a n = some cs) : cs.length = n ∧ ∀ (i : Nat) (v : Value), cs[i]? = some v → look w.heap a.block (a.off + i) = some v ∧ (i = 0 → a.spot = none) := by
  unfold World.cells? at h
  rw [if_pos (Nat.zero_le _)] at h
  obtain ⟨h1, h2⟩ := mapM_some h
  have hl : cs.length = n := by rw [h1]; simp
  refine ⟨hl, fun i v hv => ?_⟩
  have hi : i < n := by rw [← hl]; exact lt_of_get hv
  obtain ⟨y, hy, hc⟩ := h2 i i (List.getElem?_range hi)
  rw [hv] at hy; injection hy with hy; subst hy
  have hadd : (a.add i).block = a.block ∧ ((a.add i).spot = none → (i = 0 → a.spot = none) ∧ (a.add i).off = a.off + i) := by
    unfold Addr.add
    split
    · next e => subst e; exact ⟨rfl, fun h => ⟨fun _ => h, by simp⟩⟩
    · next e => exact ⟨rfl, fun h => ⟨fun e' => (e e').elim, rfl⟩⟩
  unfold World.cell? at hc
  rw [hadd.1] at hc
  split at hc
  · next c _ _ hb =>
    split at hc
    · cases hc
    · next hs =>
      have hs : (a.add i).spot = none := by simpa using hs
      obtain ⟨g1, g2⟩ := hadd.2 hs
      rw [g2] at hc
      exact ⟨by unfold look; rw [hb]; exact hc, g1⟩
  · cases hc

theorem all_choice {α β : Type} {R : Nat → α → β → Prop} : ∀ (l : List α) (k : Nat), (∀ (i : Nat) (x : α), l[i]? = some x → ∃ y, R (k + i) x y) → ∃ r : List β, r.length = l.length ∧ ∀ (i : Nat) (x : α) (y : β), l[i]? = some x → r[i]? = some y → R (k + i) x y := by
  intro l
  induction l with
  | nil => intro k _; exact ⟨[], rfl, fun i x y h => by simp at h⟩
  | cons a l ih =>
    intro k h
    obtain ⟨y, hy⟩ := h 0 a rfl
    obtain ⟨r, h1, h2⟩ := ih (k + 1) fun i x hx => by
      obtain ⟨y, hy⟩ := h (i + 1) x hx
      exact ⟨y, by rw [show k + 1 + i = k + (i + 1) from by omega]; exact hy⟩
    refine ⟨y :: r, by simp [h1], fun i x z hx hz => ?_⟩
    cases i with
    | zero => simp at hx hz; subst hx; subst hz; exact hy
    | succ i =>
      have := h2 i x z (by simpa using hx) (by simpa using hz)
      rw [show k + (i + 1) = k + 1 + i from by omega]; exact this

theorem weightsAll_mem {H : Type} {P : Program} {e : TypeId} {l : List (DataW H)} {d : DataW H} {q : Nat} (hd : d ∈ l) (hq : q ∈ DataW.weights P e d) : q ∈ DataW.weightsAll P e l := by
  induction l with
  | nil => cases hd
  | cons a l ih =>
    simp only [DataW.weightsAll, List.mem_append]
    rcases List.mem_cons.1 hd with rfl | hd
    · exact .inl hq
    · exact .inr (ih hd)

theorem Rd.slice {e : TypeId} {n : Nat} {α : Type} {f : α → List V} {ok : α → Prop} (hu : P.underlying t = some (.slice e)) (hc : P.cellsOf t = 1) (hn : 0 < n) (he : Rd P e n f ok) :
    Rd P t 1 (fun l : List α => [.view n (l.map f)]) (fun l => l.length ≤ maxLen ∧ l.length * P.bytesOf e ≤ reachBytes ∧ ∀ x ∈ l, ok x) := by
  refine ⟨hc, fun H enc w fuel cs d ps h hwt => ?_⟩
  obtain ⟨hen, hel⟩ := he
  cases fuel with
  | zero => simp [DataW.trod] at h
  | succ fuel =>
    unfold DataW.trod at h
    rw [hu] at h
    rcases cs with _ | ⟨v, _ | ⟨v2, cs⟩⟩
    · cases h
    · cases v <;> first | cases h | skip
      next base len cap =>
      cases base with
      | none =>
        cases len <;> cases cap <;> first | cases h | skip
        exact ⟨[], ⟨Nat.zero_le _, by simp, by simp⟩, rfl, rfl, one_get rfl .nilv⟩
      | some a =>
        simp only at h
        split at h
        · next hg =>
          obtain ⟨_, hlc, hcm⟩ := hg
          simp only [Option.bind_eq_some_iff, Option.map_eq_some_iff] at h
          obtain ⟨elems, h1, rest, _, hd⟩ := h
          injection hd with hd1 hd2
          subst hd1
          simp only [DataW.weights, hu, List.mem_cons, List.mem_append] at hwt
          obtain ⟨g1, g2⟩ := mapM_some h1
          have hlen : elems.length = len := by rw [g1]; simp
          have hall : ∀ (i : Nat) (x : DataW H × List MemPlace), elems[i]? = some x → ∃ y : α, ok y ∧ (f y).length = n ∧ ∀ (j : Nat) (z : V), (f y)[j]? = some z → ∃ v, look w.heap a.block (a.off + (0 + i) * n + j) = some v ∧ (0 + i = 0 → j = 0 → a.spot = none) ∧ v.oneCell' = true ∧ RV (cz w) v z := by
            intro i x hx
            have hi : i < len := by rw [← hlen]; exact lt_of_get hx
            obtain ⟨y, hy, hc⟩ := g2 i i (List.getElem?_range hi)
            rw [hx] at hy; injection hy with hy; subst hy
            rw [Option.bind_eq_some_iff] at hc
            obtain ⟨ci, hci, htr⟩ := hc
            rw [hen] at hci
            obtain ⟨c1, c2⟩ := cells?_get hci
            obtain ⟨y, k1, k2, k3, k4⟩ := hel H enc w fuel ci _ _ htr fun q hq => hwt q (.inr (.inl (weightsAll_mem (List.mem_map_of_mem (List.mem_of_getElem? hx)) hq)))
            refine ⟨y, k1, k2, fun j z hz => ?_⟩
            have hj : j < ci.length := by rw [k3, ← k2]; exact lt_of_get hz
            have hv := List.getElem?_eq_getElem hj
            obtain ⟨m1, m2⟩ := k4 j _ z hv hz
            obtain ⟨q1, q2⟩ := c2 j _ hv
            have hadd : (a.add (i * n)).block = a.block ∧ (a.add (i * n)).off = a.off + i * n := by
              unfold Addr.add
              split
              · next e => rw [e]; exact ⟨rfl, by simp⟩
              · exact ⟨rfl, rfl⟩
            rw [hadd.1, hadd.2] at q1
            refine ⟨_, by rw [Nat.zero_add]; exact q1, fun e0 e1 => ?_, m1, m2⟩
            have := q2 e1
            rw [show i * n = 0 from by rw [show i = 0 from by omega, Nat.zero_mul]] at this
            unfold Addr.add at this
            simpa using this
          obtain ⟨xs, x1, x2⟩ := all_choice (R := fun i x y => ok y ∧ (f y).length = n ∧ ∀ (j : Nat) (z : V), (f y)[j]? = some z → ∃ v, look w.heap a.block (a.off + i * n + j) = some v ∧ (i = 0 → j = 0 → a.spot = none) ∧ v.oneCell' = true ∧ RV (cz w) v z) elems 0 hall
          have hx : ∀ (i : Nat) (y : α), xs[i]? = some y → ok y ∧ (f y).length = n ∧ ∀ (j : Nat) (z : V), (f y)[j]? = some z → ∃ v, look w.heap a.block (a.off + i * n + j) = some v ∧ (i = 0 → j = 0 → a.spot = none) ∧ v.oneCell' = true ∧ RV (cz w) v z := by
            intro i y hy
            have hi : i < elems.length := by rw [← x1]; exact lt_of_get hy
            have := x2 i _ y (List.getElem?_eq_getElem hi) hy
            rw [Nat.zero_add] at this; exact this
          refine ⟨xs, ⟨by omega, ?_, fun y hy => ?_⟩, rfl, rfl, one_get rfl ?_⟩
          · have h1 := hwt _ (.inl rfl)
            refine Nat.le_trans (Nat.mul_le_mul_right _ ?_) h1
            simp [x1]
          · obtain ⟨i, hi⟩ := List.getElem?_of_mem hy
            exact (hx i y hi).1
          · have hrow : ∀ (i : Nat) (row : List V), (xs.map f)[i]? = some row → row.length = n ∧ ∀ (j : Nat) (z : V), row[j]? = some z → ∃ v, look w.heap a.block (a.off + i * n + j) = some v ∧ (i = 0 → j = 0 → a.spot = none) ∧ v.oneCell' = true ∧ RV (cz w) v z := by
              intro i row hi
              rw [List.getElem?_map, Option.map_eq_some_iff] at hi
              obtain ⟨y, hy, rfl⟩ := hi
              exact (hx i y hy).2
            have hl2 : len = (xs.map f).length := by simp [x1, hlen]
            rw [hl2]
            refine .view (fun i j => (look w.heap a.block (a.off + i * n + j)).getD undef) (fun hne => ?_) (by rw [← hl2]; exact hlc) (fun i row hi => (hrow i row hi).1) (fun i row hi j z hz => ?_) fun i row hi j z hz => ?_
            · have h0 : ∃ row, (xs.map f)[0]? = some row := by
                cases hq : xs.map f with
                | nil => exact (hne hq).elim
                | cons r l => exact ⟨r, rfl⟩
              obtain ⟨row, h0⟩ := h0
              obtain ⟨r1, r2⟩ := hrow 0 row h0
              obtain ⟨v, l1, l2, _⟩ := r2 0 _ (List.getElem?_eq_getElem (by omega))
              refine ⟨cz_own w _, ?_, l2 rfl rfl⟩
              unfold look at l1
              split at l1
              · next hb => exact hp_lt hb
              · cases l1
            · obtain ⟨v, l1, _, l3, _⟩ := (hrow i row hi).2 j z hz
              refine ⟨by show look w.heap _ _ = _; rw [l1]; rfl, by rw [l1]; exact l3⟩
            · obtain ⟨v, l1, _, _, l4⟩ := (hrow i row hi).2 j z hz
              rw [l1]; exact cz_only l4
        · cases h
    · simp at h

end
end Go.Abs

/- What the row's reading tells: structs, arguments. -/
namespace Go.Abs
set_option linter.unusedVariables false

/-- The same of a struct's fields from cell k on. -/
def RdF (P : Program) (fs : List Field) (k : Nat) (n : Nat) {α : Type} (f : α → List V) (ok : α → Prop) : Prop :=
  ∀ (H : Type) (enc : TypeId × Value → H) (w : World) (fuel : Nat) (cs : List Value) (xs : List (DataW H × List MemPlace)), fs.mapM (fun fd => DataW.trod enc P w 0 (fun _ => true) true fuel fd.type ((cs.drop fd.offset).take (P.cellsOf fd.type))) = some xs → (∀ q ∈ DataW.weightsEach P (fs.map (·.type)) (xs.map (·.1)), q ≤ reachBytes) →
    ∃ x, ok x ∧ (f x).length = n ∧ ∀ (i : Nat) (v : Value) (y : V), cs[k + i]? = some v → (f x)[i]? = some y → v.oneCell' = true ∧ RV (cz w) v y

theorem RdF.nil {P : Program} {k : Nat} : RdF P [] k 0 (fun _ : Unit => []) (fun _ => True) :=
  fun H enc w fuel cs xs h _ => ⟨(), trivial, rfl, fun i v y _ h => by simp at h⟩

theorem RdF.cons {P : Program} {fd : Field} {fs : List Field} {k n m : Nat} {α β : Type} {f : α → List V} {ok : α → Prop} {g : β → List V} {ok' : β → Prop} (ho : fd.offset = k) (h1 : Rd P fd.type n f ok) (h2 : RdF P fs (k + n) m g ok') :
    RdF P (fd :: fs) k (n + m) (fun p : α × β => f p.1 ++ g p.2) (fun p => ok p.1 ∧ ok' p.2) := by
  intro H enc w fuel cs xs h hwt
  rw [List.mapM_cons] at h
  simp only [bind, Option.bind_eq_some_iff, pure, Option.some.injEq] at h
  obtain ⟨d, hd, xs', hxs, rfl⟩ := h
  simp only [List.map_cons, DataW.weightsEach, List.mem_append] at hwt
  obtain ⟨x, a1, a2, a3, a4⟩ := h1.2 H enc w fuel _ _ _ hd fun q hq => hwt q (.inl hq)
  obtain ⟨y, b1, b2, b3⟩ := h2 H enc w fuel cs xs' hxs fun q hq => hwt q (.inr hq)
  refine ⟨(x, y), ⟨a1, b1⟩, by simp [a2, b2], fun i v z hv hz => ?_⟩
  rw [List.getElem?_append] at hz
  split at hz
  · next hi =>
    refine a4 i v z ?_ hz
    rw [List.getElem?_take, if_pos (by rw [h1.1, ← a2]; exact hi), List.getElem?_drop, ho]
    exact hv
  · next hi =>
    refine b3 (i - (f x).length) v z ?_ hz
    have hi : ¬ i < (f x).length := hi
    rw [← hv]; congr 1; omega

theorem Rd.struct {P : Program} {t : TypeId} {fs : Array Field} {n : Nat} {α : Type} {f : α → List V} {ok : α → Prop} (hu : P.underlying t = some (.struct fs)) (hc : P.cellsOf t = n) (hf : RdF P fs.toList 0 n f ok) : Rd P t n f ok := by
  refine ⟨hc, fun H enc w fuel cs d ps h hwt => ?_⟩
  cases fuel with
  | zero => simp [DataW.trod] at h
  | succ fuel =>
    have key : cs.length = P.cellsOf t ∧ ∃ xs, d = .agg (xs.map (·.1)) ∧ fs.toList.mapM (fun fd => DataW.trod enc P w 0 (fun _ => true) true fuel fd.type ((cs.drop fd.offset).take (P.cellsOf fd.type))) = some xs := by
      unfold DataW.trod at h
      rw [hu] at h
      simp only at h
      split at h
      · next hl =>
        rw [Option.map_eq_some_iff] at h
        obtain ⟨xs, h1, h2⟩ := h
        injection h2 with h2 h3
        exact ⟨hl, xs, h2.symm, h1⟩
      · cases h
    obtain ⟨hl, xs, rfl, hx⟩ := key
    obtain ⟨x, a1, a2, a3⟩ := hf H enc w fuel cs xs hx fun q hq => hwt q (by simp only [DataW.weights, hu]; exact hq)
    exact ⟨x, a1, a2, by rw [hl, hc], fun i v y hv hy => a3 i v y (by rw [Nat.zero_add]; exact hv) hy⟩

theorem Rd.map {P : Program} {t : TypeId} {n : Nat} {α β : Type} {f : α → List V} {ok : α → Prop} {g : β → List V} {ok' : β → Prop} (h : Rd P t n f ok) (hm : ∀ x, ok x → ∃ y, ok' y ∧ g y = f x) : Rd P t n g ok' := by
  refine ⟨h.1, fun H enc w fuel cs d ps ht hwt => ?_⟩
  obtain ⟨x, a1, a2, a3, a4⟩ := h.2 H enc w fuel cs d ps ht hwt
  obtain ⟨y, b1, b2⟩ := hm x a1
  exact ⟨y, b1, by rw [b2]; exact a2, a3, by rw [b2]; exact a4⟩

/-- An argument of one cell. -/
theorem Rd.arg1 {P : Program} {t : TypeId} {α : Type} {f : α → V} {ok : α → Prop} (h : Rd P t 1 (fun x => [f x]) ok) {H : Type} {enc : TypeId × Value → H} {w : World} {v : Value} {d : DataW H} {ps : List MemPlace} (ht : DataW.Trod enc P w 0 (fun _ => true) true t v d ps)
    (hwt : ∀ q ∈ DataW.weights P t d, q ≤ reachBytes) (hone : v.oneCell' = true) : ∃ x, ok x ∧ RV (cz w) v (f x) := by
  obtain ⟨fuel, ht⟩ := ht
  obtain ⟨x, a1, a2, a3, a4⟩ := h.2 H enc w fuel _ d ps ht hwt
  refine ⟨x, a1, (a4 0 v (f x) ?_ rfl).2⟩
  rw [cells_one hone]; rfl

/-- An argument of many. -/
theorem Rd.argN {P : Program} {t : TypeId} {n : Nat} {α : Type} {f : α → List V} {ok : α → Prop} (h : Rd P t n f ok) {H : Type} {enc : TypeId × Value → H} {w : World} {cs : Array Value} {d : DataW H} {ps : List MemPlace} (ht : DataW.Trod enc P w 0 (fun _ => true) true t (.agg cs) d ps) (hwt : ∀ q ∈ DataW.weights P t d, q ≤ reachBytes) :
    ∃ x, ok x ∧ RV (cz w) (.agg cs) (.agg (f x)) := by
  obtain ⟨fuel, ht⟩ := ht
  obtain ⟨x, a1, a2, a3, a4⟩ := h.2 H enc w fuel _ d ps ht hwt
  have a3 : cs.size = n := by simpa [Value.cells] using a3
  refine ⟨x, a1, .agg (by rw [a3, a2]) (fun i v hv => ?_) fun i v y hv hy => (a4 i v y (by simpa [Value.cells] using hv) hy).2⟩
  have hi : i < (f x).length := by rw [a2, ← a3]; exact (Array.getElem?_eq_some_iff.1 hv).1
  exact (a4 i v _ (by simpa [Value.cells] using hv) (List.getElem?_eq_getElem hi)).1

theorem weights_cons {H : Type} {P : Program} {t : TypeId} {ts : List TypeId} {d : DataW H} {ds : List (DataW H)} (h : (DataW.weightsEach P (t :: ts) (d :: ds)).all (· ≤ reachBytes) = true) :
    (∀ q ∈ DataW.weights P t d, q ≤ reachBytes) ∧ (DataW.weightsEach P ts ds).all (· ≤ reachBytes) = true := by
  simp only [DataW.weightsEach, List.all_append, Bool.and_eq_true] at h
  exact ⟨fun q hq => by simpa using List.all_eq_true.1 h.1 q hq, h.2⟩

/-- A law's call. -/
theorem DC.law {P : Program} {f : FuncId} {xs : List V} (h : DC P f xs [] fun r _ => r = .bool true) {W : World} {args : Array Value} (hr : RVs (cz W) args xs) :
    Calls P f args W fun e W' => e = .returned (.bool true) ∧ RowKit.Below W.heap.size W W' := by
  refine (h W βz (fun _ => False) args (cz_hok W) hr).mono fun e W' hres => ?_
  obtain ⟨r, x, H', β', rfl, adv, hx, rfl⟩ := hres
  rw [hx.of_a]
  refine ⟨rfl, adv.ext.os, adv.ext.tape, adv.ext.output, adv.ext.size, fun k hk => adv.ext.block k hk fun ⟨i, e⟩ => ?_⟩
  simp [ownsB] at e

theorem RVs.cons {c : Cx} {v : Value} {x : V} {vs : Array Value} {xs : List V} (h : RV c v x) (hs : RVs c vs xs) : RVs c (#[v] ++ vs) (x :: xs) := by
  refine ⟨by simp [hs.1]; omega, fun i u y h1 h2 => ?_⟩
  cases i with
  | zero => simp [Array.getElem?_append] at h1 h2; subst h1; subst h2; exact h
  | succ i =>
    rw [Array.getElem?_append, if_neg (by simp)] at h1
    exact hs.2 i u y (by simpa using h1) (by simpa using h2)

end Go.Abs

/- The problems, as Lean data. -/
namespace Go.Abs
attribute [local simp] I.vc sub merge place

structure Var where
  name : ByteArray
  lo : Int
  hi : Int
structure Term where
  c : Int
  x : Int
structure Con where
  kind : Int
  op : Int
  terms : List Term
  k : Int
  v : Int
  x : Int
  y : Int
  xs : List Int
  table : List Int
  rows : List (List Int)
structure Model where
  vars : List Var
  cons : List Con
  hasGoal : Bool
  goal : List Term

abbrev V.i (n : Int) : V := .a (.int .i64 n)
def vInts (l : List Int) : V := .view 1 (l.map fun n => [V.i n])
def vIntss (l : List (List Int)) : V := .view 1 (l.map fun r => [vInts r])
def Term.cells (t : Term) : List V := [V.i t.c, V.i t.x]
def vTerms (l : List Term) : V := .view 2 (l.map Term.cells)
def Var.cells (v : Var) : List V := [.str v.name, V.i v.lo, V.i v.hi]
def vVars (l : List Var) : V := .view 3 (l.map Var.cells)
def Con.cells (c : Con) : List V := [V.i c.kind, V.i c.op, vTerms c.terms, V.i c.k, V.i c.v, V.i c.x, V.i c.y, vInts c.xs, vInts c.table, vIntss c.rows]
def vCons (l : List Con) : V := .view 10 (l.map Con.cells)
def Model.cells (m : Model) : List V := [vVars m.vars, vCons m.cons, .bool m.hasGoal, vTerms m.goal]

def I64 (n : Int) : Prop := -9223372036854775808 ≤ n ∧ n ≤ 9223372036854775807
def okInts (l : List Int) : Prop := l.length ≤ maxLen ∧ ∀ n ∈ l, I64 n
def okTerm (t : Term) : Prop := I64 t.c ∧ I64 t.x
def okVar (v : Var) : Prop := v.name.size ≤ maxLen ∧ I64 v.lo ∧ I64 v.hi
def okTerms (l : List Term) : Prop := l.length ≤ maxLen ∧ ∀ t ∈ l, okTerm t
def okCon (c : Con) : Prop := I64 c.kind ∧ I64 c.op ∧ okTerms c.terms ∧ I64 c.k ∧ I64 c.v ∧ I64 c.x ∧ I64 c.y ∧ okInts c.xs ∧ okInts c.table ∧ c.rows.length ≤ maxLen ∧ ∀ r ∈ c.rows, okInts r
def okModel (m : Model) : Prop := (m.vars.length ≤ maxLen ∧ ∀ v ∈ m.vars, okVar v) ∧ (m.cons.length ≤ maxLen ∧ ∀ c ∈ m.cons, okCon c) ∧ okTerms m.goal

/-- The types that the readings below speak of. -/
structure MTypes (P : Program) (tInt tBool tStr tInts tIntss tTerm tTerms tVar tVars tCon tCons tModel : TypeId) : Prop where
  bytes : 8 ≤ P.bytesOf tInt ∧ 8 ≤ P.bytesOf tInts ∧ 8 ≤ P.bytesOf tTerm ∧ 8 ≤ P.bytesOf tVar ∧ 8 ≤ P.bytesOf tCon
  int : P.underlying tInt = some (.int .i64) ∧ P.cellsOf tInt = 1
  bool : P.underlying tBool = some .bool ∧ P.cellsOf tBool = 1
  str : P.underlying tStr = some .string ∧ P.cellsOf tStr = 1
  ints : P.underlying tInts = some (.slice tInt) ∧ P.cellsOf tInts = 1
  intss : P.underlying tIntss = some (.slice tInts) ∧ P.cellsOf tIntss = 1
  term : ∃ fs, P.underlying tTerm = some (.struct fs) ∧ P.cellsOf tTerm = 2 ∧ fs.toList.map (fun f => (f.type, f.offset)) = [(tInt, 0), (tInt, 1)]
  terms : P.underlying tTerms = some (.slice tTerm) ∧ P.cellsOf tTerms = 1
  var : ∃ fs, P.underlying tVar = some (.struct fs) ∧ P.cellsOf tVar = 3 ∧ fs.toList.map (fun f => (f.type, f.offset)) = [(tStr, 0), (tInt, 1), (tInt, 2)]
  vars : P.underlying tVars = some (.slice tVar) ∧ P.cellsOf tVars = 1
  con : ∃ fs, P.underlying tCon = some (.struct fs) ∧ P.cellsOf tCon = 10 ∧ fs.toList.map (fun f => (f.type, f.offset)) = [(tInt, 0), (tInt, 1), (tTerms, 2), (tInt, 3), (tInt, 4), (tInt, 5), (tInt, 6), (tInts, 7), (tInts, 8), (tIntss, 9)]
  cons : P.underlying tCons = some (.slice tCon) ∧ P.cellsOf tCons = 1
  model : ∃ fs, P.underlying tModel = some (.struct fs) ∧ P.cellsOf tModel = 4 ∧ fs.toList.map (fun f => (f.type, f.offset)) = [(tVars, 0), (tCons, 1), (tBool, 2), (tTerms, 3)]

def fl (t : TypeId) (o : Nat) : Field := { (default : Field) with type := t, offset := o }

/-- So long is what is read, at most. -/
def maxS : Nat := 17592186044416
def zInts (l : List Int) : Prop := okInts l ∧ l.length ≤ maxS
def zTerms (l : List Term) : Prop := okTerms l ∧ l.length ≤ maxS
def zVar (v : Var) : Prop := okVar v ∧ v.name.size ≤ reachBytes
def zCon (c : Con) : Prop := okCon c ∧ c.terms.length ≤ maxS ∧ c.xs.length ≤ maxS ∧ c.table.length ≤ maxS ∧ c.rows.length ≤ maxS ∧ ∀ r ∈ c.rows, r.length ≤ maxS
def zModel (m : Model) : Prop := okModel m ∧ m.vars.length ≤ maxS ∧ m.cons.length ≤ maxS ∧ m.goal.length ≤ maxS ∧ (∀ v ∈ m.vars, v.name.size ≤ reachBytes) ∧ ∀ c ∈ m.cons, zCon c
theorem maxS_of {n b : Nat} (h : n * b ≤ reachBytes) (hb : 8 ≤ b) : n ≤ maxS := by
  have h1 : n * 8 ≤ n * b := Nat.mul_le_mul_left _ hb
  unfold reachBytes at h
  unfold maxS
  omega

theorem RdF.of_map {P : Program} {fs : List Field} {k n : Nat} {α : Type} {g : α → List V} {ok : α → Prop} (h : RdF P fs k n g ok) {gs : List Field} (he : gs.map (fun f => (f.type, f.offset)) = fs.map (fun f => (f.type, f.offset))) : RdF P gs k n g ok := by
  intro H enc w fuel cs xs hx hwt
  have ht : gs.map (·.type) = fs.map (·.type) := by have := congrArg (List.map Prod.fst) he; simpa [Function.comp_def] using this
  rw [ht] at hwt
  refine h H enc w fuel cs xs ?_ hwt
  have : ∀ (l : List Field), l.mapM (fun fd => DataW.trod enc P w 0 (fun _ => true) true fuel fd.type ((cs.drop fd.offset).take (P.cellsOf fd.type))) = (l.map fun f => (f.type, f.offset)).mapM (fun q => DataW.trod enc P w 0 (fun _ => true) true fuel q.1 ((cs.drop q.2).take (P.cellsOf q.1))) := by
    intro l
    induction l with
    | nil => rfl
    | cons a l ih => rw [List.map_cons, List.mapM_cons, List.mapM_cons, ih]
  rw [this] at hx ⊢
  rw [← he]; exact hx

section
variable {P : Program} {tInt tBool tStr tInts tIntss tTerm tTerms tVar tVars tCon tCons tModel : TypeId} (M : MTypes P tInt tBool tStr tInts tIntss tTerm tTerms tVar tVars tCon tCons tModel)
include M

theorem MTypes.rdInt : Rd P tInt 1 (fun n : Int => [V.i n]) I64 :=
  (Rd.int M.int.1 M.int.2).map fun n h => ⟨n, by
    have : (decide (IntKind.i64.min ≤ n) && decide (n ≤ IntKind.i64.max)) = true := h
    simp only [Bool.and_eq_true, decide_eq_true_eq] at this
    exact ⟨this.1, this.2⟩, rfl⟩

theorem MTypes.rdInts : Rd P tInts 1 (fun l : List Int => [vInts l]) zInts :=
  (Rd.slice M.ints.1 M.ints.2 (by omega) M.rdInt).map fun l h => ⟨l, ⟨⟨h.1, h.2.2⟩, maxS_of h.2.1 M.bytes.1⟩, rfl⟩

theorem MTypes.rdIntss : Rd P tIntss 1 (fun l : List (List Int) => [vIntss l]) (fun l => l.length ≤ maxLen ∧ l.length ≤ maxS ∧ ∀ r ∈ l, zInts r) :=
  (Rd.slice M.intss.1 M.intss.2 (by omega) M.rdInts).map fun l h => ⟨l, ⟨h.1, maxS_of h.2.1 M.bytes.2.1, h.2.2⟩, rfl⟩

theorem MTypes.rdTerm : Rd P tTerm 2 Term.cells okTerm := by
  obtain ⟨fs, h1, h2, h3⟩ := M.term
  refine (Rd.struct h1 h2 (RdF.of_map (fs := [fl tInt 0, fl tInt 1]) (.cons rfl M.rdInt (.cons rfl M.rdInt .nil)) h3)).map fun x h => ?_
  exact ⟨⟨x.1, x.2.1⟩, ⟨h.1, h.2.1⟩, rfl⟩

theorem MTypes.rdTerms : Rd P tTerms 1 (fun l : List Term => [vTerms l]) zTerms :=
  (Rd.slice M.terms.1 M.terms.2 (by omega) M.rdTerm).map fun l h => ⟨l, ⟨⟨h.1, h.2.2⟩, maxS_of h.2.1 M.bytes.2.2.1⟩, rfl⟩

theorem MTypes.rdVar : Rd P tVar 3 Var.cells zVar := by
  obtain ⟨fs, h1, h2, h3⟩ := M.var
  refine (Rd.struct h1 h2 (RdF.of_map (fs := [fl tStr 0, fl tInt 1, fl tInt 2]) (.cons rfl (Rd.str M.str.1 M.str.2) (.cons rfl M.rdInt (.cons rfl M.rdInt .nil))) h3)).map fun x h => ?_
  exact ⟨⟨x.1, x.2.1, x.2.2.1⟩, ⟨⟨h.1.1, h.2.1, h.2.2.1⟩, h.1.2⟩, rfl⟩

theorem MTypes.rdCon : Rd P tCon 10 Con.cells zCon := by
  obtain ⟨fs, h1, h2, h3⟩ := M.con
  refine (Rd.struct h1 h2 (RdF.of_map (fs := [fl tInt 0, fl tInt 1, fl tTerms 2, fl tInt 3, fl tInt 4, fl tInt 5, fl tInt 6, fl tInts 7, fl tInts 8, fl tIntss 9])
    (.cons rfl M.rdInt (.cons rfl M.rdInt (.cons rfl M.rdTerms (.cons rfl M.rdInt (.cons rfl M.rdInt (.cons rfl M.rdInt (.cons rfl M.rdInt (.cons rfl M.rdInts (.cons rfl M.rdInts (.cons rfl M.rdIntss .nil)))))))))) h3)).map fun x h => ?_
  obtain ⟨a1, a2, a3, a4, a5, a6, a7, a8, a9, a10, _⟩ := h
  exact ⟨⟨x.1, x.2.1, x.2.2.1, x.2.2.2.1, x.2.2.2.2.1, x.2.2.2.2.2.1, x.2.2.2.2.2.2.1, x.2.2.2.2.2.2.2.1, x.2.2.2.2.2.2.2.2.1, x.2.2.2.2.2.2.2.2.2.1⟩, ⟨⟨a1, a2, a3.1, a4, a5, a6, a7, a8.1, a9.1, a10.1, fun r hr => (a10.2.2 r hr).1⟩, a3.2, a8.2, a9.2, a10.2.1, fun r hr => (a10.2.2 r hr).2⟩, rfl⟩

theorem MTypes.rdModel : Rd P tModel 4 Model.cells zModel := by
  obtain ⟨fs, h1, h2, h3⟩ := M.model
  refine (Rd.struct h1 h2 (RdF.of_map (fs := [fl tVars 0, fl tCons 1, fl tBool 2, fl tTerms 3])
    (.cons rfl (Rd.slice M.vars.1 M.vars.2 (by omega) M.rdVar) (.cons rfl (Rd.slice M.cons.1 M.cons.2 (by omega) M.rdCon) (.cons rfl (Rd.bool M.bool.1 M.bool.2) (.cons rfl M.rdTerms .nil)))) h3)).map fun x h => ?_
  obtain ⟨a1, a2, a3, a4, _⟩ := h
  exact ⟨⟨x.1, x.2.1, x.2.2.1, x.2.2.2.1⟩, ⟨⟨⟨a1.1, fun v hv => (a1.2.2 v hv).1⟩, ⟨a2.1, fun c hc => (a2.2.2 c hc).1⟩, a4.1⟩, maxS_of a1.2.1 M.bytes.2.2.2.1, maxS_of a2.2.1 M.bytes.2.2.2.2, a4.2, fun v hv => (a1.2.2 v hv).2, fun c hc => a2.2.2 c hc⟩, rfl⟩

end
end Go.Abs


/- What the functions of the package model compute, as Lean functions. -/
namespace Go.Abs

structure Needs where
  terms : Bool
  xs : Bool
  table : Bool
  rows : Bool
  x : Bool
  y : Bool
  k : Bool
  op : Bool
  v : Bool
  deriving DecidableEq

/-- A kind's needs, as they lie in memory. -/
def Needs.cells (n : Needs) (f : FuncId) : List V := [.bool n.terms, .bool n.xs, .bool n.table, .bool n.rows, .bool n.x, .bool n.y, .bool n.k, .bool n.op, .bool n.v, .fn (.func f) [] []]

def needs (k : Int) : Option Needs :=
  if k = 1 then some ⟨true, false, false, false, false, false, true, true, false⟩
  else if k = 2 then some ⟨false, false, false, false, true, true, true, false, false⟩
  else if k = 3 then some ⟨false, true, false, false, false, false, false, false, false⟩
  else if k = 4 then some ⟨false, false, true, false, true, true, false, false, false⟩
  else if k = 5 then some ⟨false, true, false, false, false, true, false, false, false⟩
  else if k = 6 then some ⟨false, true, false, false, false, true, false, false, false⟩
  else if k = 7 then some ⟨true, false, false, false, true, false, true, false, false⟩
  else if k = 8 then some ⟨false, true, false, true, false, false, false, false, false⟩
  else if k = 9 then some ⟨false, true, false, false, false, false, true, true, true⟩
  else none

def withinB (n most : Int) : Bool := decide (-most ≤ n) && decide (n ≤ most)
def greatB (l : List Int) : Bool := l.any fun t => !withinB t 1000000000
def countsB (there : Bool) (n : Nat) : Bool := !there || (decide (1 ≤ n) && decide (n ≤ 64))
def badVarB (vars : Int) (l : List Term) : Bool := l.any fun t => decide (t.x < 0) || decide (vars ≤ t.x)
def badCoefB (l : List Term) : Bool := l.any fun t => decide (t.c = 0) || !withinB t.c 1000000
def noB (vars x : Int) : Bool := decide (x < 0) || decide (vars ≤ x)
def fieldB (c : Con) (n : Needs) : Bool :=
  (!n.op && decide (c.op ≠ 0)) || (!n.k && decide (c.k ≠ 0)) || (!n.v && decide (c.v ≠ 0)) || (!n.x && decide (c.x ≠ 0)) || (!n.y && decide (c.y ≠ 0)) ||
  (!n.terms && decide (0 < c.terms.length)) || (!n.xs && decide (0 < c.xs.length)) || (!n.table && decide (0 < c.table.length)) || (!n.rows && decide (0 < c.rows.length))
def wideB (c : Con) (n : Needs) : Bool :=
  n.rows && (decide (8 < c.xs.length) || !countsB true c.rows.length || c.rows.any fun r => decide (r.length ≠ c.xs.length))
def conN (c : Con) (vars : Int) (n : Needs) : Int :=
  if n.op && (decide (c.op < 1) || decide (3 < c.op)) then 43
  else if fieldB c n then 48
  else if !countsB n.terms c.terms.length || !countsB n.xs c.xs.length || !countsB n.table c.table.length || wideB c n then 47
  else if badVarB vars c.terms || (n.x && noB vars c.x) || (n.y && noB vars c.y) || c.xs.any (noB vars) then 44
  else if badCoefB c.terms then 45
  else if !withinB c.k 1000000000 || !withinB c.v 1000000000 || greatB c.table || c.rows.any greatB then 46
  else 0
def conB (c : Con) (vars : Int) : Int :=
  match needs c.kind with
  | none => 43
  | some n => conN c vars n

def letterB (r : Nat) : Bool := (decide (97 ≤ r) && decide (r ≤ 122)) || (decide (65 ≤ r) && decide (r ≤ 90)) || decide (r = 95)
def nameFrom (s : ByteArray) : Nat → Nat → Bool
  | 0, _ => true
  | f + 1, pos => if pos < s.size then
      (if !letterB (Utf8.decode s pos).1 && (decide (pos = 0) || decide ((Utf8.decode s pos).1 < 48) || decide (57 < (Utf8.decode s pos).1)) then false else nameFrom s f (pos + (Utf8.decode s pos).2))
    else true
def nameB (s : ByteArray) : Bool := nameFrom s (s.size + 1) 0 && decide (1 ≤ s.size) && decide (s.size ≤ 16)

def varB (l : List Var) (i : Nat) (v : Var) : Int :=
  if !nameB v.name || (l.take i).any fun w => decide (w.name = v.name) then 41
  else if !withinB v.lo 1000000000 || !withinB v.hi 1000000000 || decide (v.hi < v.lo) || decide (64 ≤ v.hi - v.lo) then 42
  else 0

def goalB (m : Model) : Int :=
  if !m.hasGoal && decide (0 < m.goal.length) then 48
  else if !countsB m.hasGoal m.goal.length then 47
  else if badVarB m.vars.length m.goal then 44
  else if badCoefB m.goal then 45
  else 0

/-- The first place of which something else than 0 is told. -/
def firstBad {α : Type} (f : Nat → α → Int) : Nat → List α → Option (Nat × Int)
  | _, [] => none
  | i, x :: l => if f i x = 0 then firstBad f (i + 1) l else some (i, f i x)

def checkB (m : Model) : Int × Int :=
  if m.vars.length = 0 ∨ 32 < m.vars.length then (0, 40)
  else match firstBad (varB m.vars) 0 m.vars with
    | some (i, e) => ((i : Int), e)
    | none => if 64 < m.cons.length then ((m.vars.length : Int), 49)
      else match firstBad (fun _ c => conB c m.vars.length) 0 m.cons with
        | some (i, e) => ((m.vars.length : Int) + i, e)
        | none => if goalB m = 0 then (0, 0) else ((m.vars.length : Int) + m.cons.length, goalB m)

def rightB (m : Model) : Bool := decide ((checkB m).2 = 0)

end Go.Abs

/- Worth, Floor, Ceil: plain laws. -/
namespace Go.Abs

theorem firstBad_none {α : Type} {f : Nat → α → Int} : ∀ {l : List α} {i : Nat}, firstBad f i l = none → ∀ (j : Nat) (x : α), l[j]? = some x → f (i + j) x = 0 := by
  intro l
  induction l with
  | nil => intro i _ j x h; simp at h
  | cons y l ih =>
    intro i h j x hj
    simp only [firstBad] at h
    split at h
    · next h0 =>
      cases j with
      | zero => simp at hj; subst hj; simpa using h0
      | succ j =>
        have := ih h j x (by simpa using hj)
        rw [← this]; congr 1; omega
    · cases h

theorem firstBad_some {α : Type} {f : Nat → α → Int} : ∀ {l : List α} {i : Nat} {p : Nat × Int}, firstBad f i l = some p → p.2 ≠ 0 := by
  intro l
  induction l with
  | nil => intro i p h; simp [firstBad] at h
  | cons y l ih =>
    intro i p h
    simp only [firstBad] at h
    split at h
    · exact ih h
    · next h0 => cases h; exact h0

structure Right (m : Model) : Prop where
  nv : 1 ≤ m.vars.length ∧ m.vars.length ≤ 32
  nc : m.cons.length ≤ 64
  var : ∀ (i : Nat) (v : Var), m.vars[i]? = some v → varB m.vars i v = 0
  con : ∀ c ∈ m.cons, conB c m.vars.length = 0
  goal : goalB m = 0

theorem right_iff {m : Model} : rightB m = true ↔ Right m := by
  unfold rightB checkB
  simp only [decide_eq_true_eq]
  constructor
  · intro h
    split at h
    · simp at h
    · next h1 =>
      split at h
      · next p i e hp => exact absurd h (firstBad_some hp)
      · next hv =>
        split at h
        · simp at h
        · next h2 =>
          split at h
          · next p i e hp => exact absurd h (firstBad_some hp)
          · next hc =>
            split at h
            · next hg =>
              refine ⟨by omega, by omega, fun i v hi => ?_, fun c hc' => ?_, hg⟩
              · have := firstBad_none hv i v hi; simpa using this
              · obtain ⟨j, hj⟩ := List.getElem?_of_mem hc'
                have := firstBad_none hc j c hj; simpa using this
            · next hg => exact absurd h hg
  · intro h
    rw [if_neg (by have := h.nv; omega)]
    have key : ∀ {α : Type} (f : Nat → α → Int) (l : List α) (i : Nat), (∀ (j : Nat) (x : α), l[j]? = some x → f (i + j) x = 0) → firstBad f i l = none := by
      intro α f l
      induction l with
      | nil => intro i _; rfl
      | cons x l ih =>
        intro i h
        simp only [firstBad]
        rw [if_pos (by simpa using h 0 x rfl)]
        refine ih _ fun j y hj => ?_
        have := h (j + 1) y (by simpa using hj)
        rw [← this]; congr 1; omega
    rw [key _ m.vars 0 fun j x hj => by rw [Nat.zero_add]; exact h.var j x hj]
    simp only
    rw [if_neg (by have := h.nc; omega), key _ m.cons 0 fun j x hj => h.con x (List.mem_of_getElem? hj)]
    simp [h.goal]

structure VarOk (v : Var) : Prop where
  lo : -1000000000 ≤ v.lo ∧ v.lo ≤ 1000000000
  hi : -1000000000 ≤ v.hi ∧ v.hi ≤ 1000000000
  le : v.lo ≤ v.hi
  dom : v.hi - v.lo < 64

theorem VarOk.of {l : List Var} {i : Nat} {v : Var} (h : varB l i v = 0) : VarOk v := by
  unfold varB at h
  split at h
  · cases h
  · split at h
    · cases h
    · next h2 =>
      simp only [withinB, Bool.or_eq_true, Bool.not_eq_true', Bool.and_eq_false_iff, decide_eq_true_eq, decide_eq_false_iff_not, not_or, Bool.not_eq_false] at h2
      constructor <;> omega

structure TermOk (vars : Nat) (t : Term) : Prop where
  x : 0 ≤ t.x ∧ t.x < vars
  c : -1000000 ≤ t.c ∧ t.c ≤ 1000000 ∧ t.c ≠ 0

theorem TermOk.of {vars : Nat} {l : List Term} (h1 : badVarB vars l = false) (h2 : badCoefB l = false) : ∀ t ∈ l, TermOk vars t := by
  intro t ht
  unfold badVarB at h1
  unfold badCoefB at h2
  rw [List.any_eq_false] at h1 h2
  have h1 := h1 t ht
  have h2 := h2 t ht
  simp only [withinB, Bool.or_eq_true, Bool.not_eq_true', Bool.and_eq_false_iff, decide_eq_true_eq, decide_eq_false_iff_not, not_or, Bool.not_eq_false] at h1 h2
  constructor <;> omega

theorem Right.terms {m : Model} (h : Right m) : (∀ t ∈ m.goal, TermOk m.vars.length t) ∧ m.goal.length ≤ 64 := by
  have hg := h.goal
  unfold goalB at hg
  split at hg
  · cases hg
  · next h1 =>
    split at hg
    · cases hg
    · next h2 =>
      split at hg
      · cases hg
      · next h3 =>
        split at hg
        · cases hg
        · next h4 =>
          refine ⟨TermOk.of (by simpa using h3) (by simpa using h4), ?_⟩
          simp [countsB] at h1 h2
          cases hh : m.hasGoal
          · simp [h1 hh]
          · have := h2 hh
            omega

/-- Values within the bounds. -/
def Within (m : Model) (l : List Int) : Prop := l.length = m.vars.length ∧ ∀ (i : Nat) (v : Var), m.vars[i]? = some v → v.lo ≤ l.getD i 0 ∧ l.getD i 0 ≤ v.hi

theorem Within.great {m : Model} (h : Right m) {l : List Int} (hw : Within m l) : greatB l = false := by
  unfold greatB
  rw [List.any_eq_false]
  intro x hx
  obtain ⟨i, hi⟩ := List.getElem?_of_mem hx
  have hlt : i < m.vars.length := by rw [← hw.1]; exact (List.getElem?_eq_some_iff.1 hi).1
  have hv := List.getElem?_eq_getElem hlt
  have h1 := hw.2 i _ hv
  have h2 := VarOk.of (h.var i _ hv)
  have h3 : l.getD i 0 = x := by simp [List.getD, hi]
  rw [h3] at h1
  have := h2.lo; have := h2.hi
  simp [withinB]
  omega

end Go.Abs

/- Holds, Solution: what they tell. -/
namespace Go.Abs

structure ConOk (c : Con) (vars : Nat) (n : Needs) : Prop where
  terms : ∀ t ∈ c.terms, TermOk vars t
  termsN : c.terms.length ≤ 64
  xs : ∀ x ∈ c.xs, 0 ≤ x ∧ x < vars
  xsN : c.xs.length ≤ 64
  xs1 : n.xs = true → 1 ≤ c.xs.length
  x : n.x = true → 0 ≤ c.x ∧ c.x < vars
  y : n.y = true → 0 ≤ c.y ∧ c.y < vars
  k : -1000000000 ≤ c.k ∧ c.k ≤ 1000000000
  rowsN : c.rows.length ≤ 64
  tableN : c.table.length ≤ 64

theorem ConOk.of {c : Con} {vars : Nat} {n : Needs} (h : conN c vars n = 0) : ConOk c vars n := by
  unfold conN at h
  split at h
  · cases h
  · split at h
    · cases h
    · next h1 =>
      split at h
      · cases h
      · next h2 =>
        split at h
        · cases h
        · next h3 =>
          split at h
          · cases h
          · next h4 =>
            split at h
            · cases h
            · next h5 =>
              simp only [Bool.or_eq_true, not_or, Bool.not_eq_true', Bool.and_eq_true, not_and, decide_eq_true_eq, Bool.not_eq_false] at h2 h3 h5
              obtain ⟨⟨⟨t1, t2⟩, t3⟩, t4⟩ := h2
              obtain ⟨⟨⟨v1, v2⟩, v3⟩, v4⟩ := h3
              obtain ⟨⟨⟨k1, k2⟩, k3⟩, k4⟩ := h5
              have hf : ∀ {a : Bool} {k : Nat}, fieldB c n = false → (!a && decide (0 < k)) = false → countsB a k = true → k ≤ 64 := by
                intro a k _ h h'
                unfold countsB at h'
                cases a <;> simp at h h' <;> omega
              have hfield : fieldB c n = false := by simpa using h1
              have hfl := hfield
              unfold fieldB at hfl
              simp only [Bool.or_eq_false_iff] at hfl
              obtain ⟨⟨⟨⟨_, f1⟩, f2⟩, f3⟩, f4⟩ := hfl
              refine ⟨TermOk.of (by simpa using v1) (by simpa using h4), hf hfield f1 t1, fun x hx => ?_, hf hfield f2 t2, fun hn => ?_, fun hn => ?_, fun hn => ?_, ?_, ?_, hf hfield f3 t3⟩
              · have := (List.any_eq_false.1 (by simpa using v4 : c.xs.any (noB vars) = false)) x hx
                simp [noB] at this
                omega
              · unfold countsB at t2
                rw [hn] at t2
                simp at t2
                omega
              · have := v2 hn
                simp [noB] at this
                omega
              · have := v3 hn
                simp [noB] at this
                omega
              · simp [withinB] at k1
                omega
              · cases hn : n.rows
                · rw [hn] at f4
                  simp at f4
                  simp [f4]
                · have h5' := t4
                  simp [wideB, hn, countsB] at h5'
                  omega
end Go.Abs

/- A cut: what stands between two pieces of code. -/
namespace Go.Abs
attribute [local simp] I.vc sub merge place

@[simp] theorem gt_trimS (n : Nat) (l : Sl) (t : Nat) : gt (trimS n l) t = lim n (gt l t) := rfl

theorem vcIts_mono' {P : Program} {K K' : St → Prop} (hk : ∀ s, K s → K' s) : ∀ {l : List It} {st : St}, vcIts P l K st → vcIts P l K' st := by
  intro l
  induction l with
  | nil => intro st h; exact hk _ h
  | cons it l ih =>
    intro st h
    cases it with
    | g i => exact I.vc_mono h fun s => ih
    | o j i => exact I.vc_mono h fun s => ih
    | gd j s want d i =>
      simp only [vcIts] at h ⊢
      split at h
      · next b e => exact ⟨fun hb => I.vc_mono (h.1 hb) fun s => ih, fun hb => ih (h.2 hb)⟩
      · next e => exact ih h
      · exact h.elim

theorem vc_mono {P : Program} : ∀ {c : C} {Q Q' : Ex → St → Prop} {st : St}, (∀ e s, Q e s → Q' e s) → vc P c Q st → vc P c Q' st := by
  intro c
  induction c with
  | skip => intro Q Q' st hq h; exact hq _ _ h
  | reg n its => intro Q Q' st hq h; exact vcIts_mono' (fun s => hq _ s) h
  | seq a b iha ihb =>
    intro Q Q' st hq h
    refine iha (fun e s hs => ?_) h
    cases e with
    | norm => exact ihb hq hs
    | exit i => exact hq _ _ hs
    | ret => exact hq _ _ hs
  | cond x a b iha ihb =>
    intro Q Q' st hq h
    simp only [vc] at h ⊢
    split at h
    · exact ⟨fun ht => iha hq (h.1 ht), fun ht => ihb hq (h.2 ht)⟩
    · exact h.elim
  | block id c ih =>
    intro Q Q' st hq h
    refine ih (fun e s hs => ?_) h
    cases e with
    | norm => exact hq _ _ hs
    | exit i =>
      simp only at hs ⊢
      by_cases hi : i = id
      · rw [if_pos hi] at hs ⊢; exact hq _ _ hs
      · rw [if_neg hi] at hs ⊢; exact hq _ _ hs
    | ret => exact hq _ _ hs
  | loop c ih => intro Q Q' st hq h; exact WI.mono h hq
  | exit i => intro Q Q' st hq h; exact hq _ _ h
  | ret => intro Q Q' st hq h; exact hq _ _ h

theorem vc_cut {P : Program} {a b : C} {Q : Ex → St → Prop} {st : St} (R : St → Prop) (h1 : vc P a (fun e s => match e with | .norm => R s | .exit i => Q (.exit i) s | .ret => Q .ret s) st) (h2 : ∀ s, R s → vc P b Q s) : vc P (.seq a b) Q st := by
  show vc P a _ st
  refine vc_mono (fun e s hs => ?_) h1
  cases e with
  | norm => exact h2 s hs
  | exit i => exact hs
  | ret => exact hs

theorem vcIts_cut {P : Program} {K : St → Prop} {l : List It} {st : St} (n : Nat) (R : St → Prop) (h1 : vcIts P (l.take n) R st) (h2 : ∀ s, R s → vcIts P (l.drop n) K s) : vcIts P l K st := by
  rw [← List.take_append_drop n l, vcIts_append]
  exact vcIts_mono' h2 h1

theorem vc_reg_of {P : Program} {n : Nat} {its : List It} {Q : Ex → St → Prop} {st : St} (h : vcIts P its (Q .norm) (st.res n)) : vc P (.reg n its) Q st := h

theorem vc_block_of {P : Program} {id : Nat} {c : C} {Q : Ex → St → Prop} {st : St} (h : vc P c (fun e s => match e with | .norm => Q .norm s | .exit i => if i = id then Q .norm s else Q (.exit i) s | .ret => Q .ret s) st) : vc P (.block id c) Q st := h
end Go.Abs

/- A value told otherwise; arguments that are told otherwise. -/
namespace Go.Abs
attribute [local simp] I.vc sub merge place

/-- What is so is also so. -/
def V.sub (x y : V) : Prop := ∀ (c : Cx) (v : Value), RV c v x → RV c v y
def V.subL (xs ys : List V) : Prop := xs.length = ys.length ∧ ∀ (i : Nat) (x y : V), xs[i]? = some x → ys[i]? = some y → x.sub y

theorem V.sub.refl (x : V) : x.sub x := fun _ _ h => h
theorem V.sub.nil (es : Nat) : (V.a (.slice none 0 0)).sub (.view es []) := fun c v h => by rw [h.of_a]; exact .nilv
theorem V.subL.nil : V.subL [] [] := ⟨rfl, fun i x y h => by simp at h⟩
theorem V.subL.cons {x y : V} {xs ys : List V} (h : x.sub y) (hs : V.subL xs ys) : V.subL (x :: xs) (y :: ys) := by
  refine ⟨by simp [hs.1], fun i u w h1 h2 => ?_⟩
  cases i with
  | zero => simp at h1 h2; subst h1; subst h2; exact h
  | succ i => exact hs.2 i u w (by simpa using h1) (by simpa using h2)
theorem V.subL.refl (xs : List V) : V.subL xs xs := ⟨rfl, fun i x y h1 h2 => by rw [h1] at h2; injection h2 with h2; subst h2; exact .refl _⟩
theorem V.sub.agg {xs ys : List V} (h : V.subL xs ys) : (V.agg xs).sub (.agg ys) := by
  intro c v hr
  cases hr with
  | agg hl h1 h2 =>
    refine .agg (by rw [hl]; exact h.1) h1 fun i v y hv hy => ?_
    have hi : i < xs.length := by rw [h.1]; exact lt_of_get hy
    exact h.2 i _ y (List.getElem?_eq_getElem hi) hy _ _ (h2 i v _ hv (List.getElem?_eq_getElem hi))

theorem DC.sub {P : Program} {f : FuncId} {xs ys : List V} {H : Heap} {Q : V → Heap → Prop} (hs : V.subL xs ys) (h : DC P f ys H Q) : DC P f xs H Q := by
  intro w β F vs hk hr
  refine h w β F vs hk ⟨by rw [hr.1]; exact hs.1, fun i v y hv hy => ?_⟩
  have hi : i < xs.length := by rw [hs.1]; exact lt_of_get hy
  exact hs.2 i _ y (List.getElem?_eq_getElem hi) hy _ _ (hr.2 i v _ hv (List.getElem?_eq_getElem hi))

theorem DP.sub {P : Program} {f : FuncId} {xs ys : List V} {Q : V → Prop} (hs : V.subL xs ys) (h : DP P f ys Q) : DP P f xs Q := DC.sub hs h

/-! Calls whose sequel stays as it is until the call is met. -/
class Fix {α : Type} (x : α) where
instance {α : Type} (x : α) : Fix x := ⟨⟩

def DPf (P : Program) (f : FuncId) (xs : List V) (Q : V → Prop) [Fix Q] : Prop := DP P f xs Q
def DCf (P : Program) (f : FuncId) (xs : List V) (H : Heap) (Q : V → Heap → Prop) [Fix Q] : Prop := DC P f xs H Q
section
variable {P : Program} {d : Option Nat} {fv : Operand} {xs : List Operand} {k : St → Prop} {st : St} {f : FuncId} {fs cs : List V}
theorem callb_f (h : st.ev fv = .fn (.func f) fs cs) : I.vc P (.callb d fv xs) k st = (okFunc P f = true ∧ V.fzPL st.hp (fs ++ xs.map st.ev ++ cs) ∧ DPf P f (V.fzL st.hp (fs ++ xs.map st.ev ++ cs)) (fun r => r.flat = true ∧ k (st.put d r))) := by
  simp only [I.vc, h]; rfl
theorem callb_fn : I.vc P (.callb d (.func f) xs) k st = (okFunc P f = true ∧ V.fzPL st.hp (xs.map st.ev) ∧ DPf P f (V.fzL st.hp (xs.map st.ev)) (fun r => r.flat = true ∧ k (st.put d r))) := by
  rw [callb_f (f := f) (fs := []) (cs := []) rfl]; simp only [List.nil_append, List.append_nil]
end
end Go.Abs

/- A call of a function that is handed objects, by its constant. -/
namespace Go.Abs
attribute [local simp] I.vc sub merge place
theorem callm_fn {P : Program} {d : Option Nat} {f : FuncId} {xs : List Operand} {k : St → Prop} {st : St} : I.vc P (.callm d (.func f) xs) k st = (okFunc P f = true ∧ OkSel st.hp (clos st.hp 8 (addAll [] (V.idsL (xs.map st.ev)))) ∧
    DCf P f (V.renL (idx (clos st.hp 8 (addAll [] (V.idsL (xs.map st.ev))))) (xs.map st.ev)) (sub st.hp (clos st.hp 8 (addAll [] (V.idsL (xs.map st.ev))))) (fun r H' =>
      k ({ st with hp := merge st.hp (clos st.hp 8 (addAll [] (V.idsL (xs.map st.ev)))) H' }.put d (r.ren (back (clos st.hp 8 (addAll [] (V.idsL (xs.map st.ev)))) st.hp.length))))) := by
  simp only [I.vc, St.ev, List.nil_append, List.append_nil]; rfl
end Go.Abs

/- A state told otherwise; results told otherwise; nil or not. -/
namespace Go.Abs
set_option linter.unusedVariables false
attribute [local simp] I.vc sub merge place

section
variable {w : World} {β : Nat → Hd} {F : Nat → Prop} {H : Heap}

/-- An object's cells told otherwise. -/
theorem adv_cells {id : Nat} {refs refs' : List Nat} {rows rows' : List (List V)} (hk : HOK w.heap H β F) (hid : H[id]? = some (.mem false refs rows)) (hl : rows'.length = rows.length)
    (hrow : ∀ (i : Nat) (row' : List V), rows'[i]? = some row' → ∃ row, rows[i]? = some row ∧ row.length = row'.length ∧ ∀ (j : Nat) (x' : V), row'[j]? = some x' → ∃ x, row[j]? = some x ∧ ∀ v, RV ((cx w.heap H β F).only refs) v x → RV ((cx w.heap H β F).only refs') v x') :
    Adv F w H β w (H.set id (.mem false refs' rows')) β := by
  have hupd : upd β id (β id) = β := by funext k; unfold upd; split <;> simp_all
  obtain ⟨h1, h2, h3⟩ := hk.turn (hp' := w.heap) (o' := .mem false refs' rows') (h' := β id) hid (Nat.le_refl _) (fun _ _ _ => rfl)
    (fun b hb => by unfold ownsB at hb ⊢; rw [get_set hid, upd_same] at hb; rw [hid]; exact .inl hb)
    (by simp) (fun g' hg _ => by
      left; unfold hdOf at hg ⊢; rw [get_set hid, upd_same] at hg; rw [hid]; simp only at hg ⊢; rw [← hl]; exact hg)
    (fun hle => by
      rcases hk.ro id _ hid with hr | ⟨q1, q2, q3, q4, q5, cs, E, fr, q6, q7, q8, q9⟩
      · exact .inl ⟨hr.1, List.length_eq_zero_iff.1 (by rw [hl, hr.2.1]; rfl), hr.2.2⟩
      · refine .inr ⟨q1, by rw [hl]; exact q2, by rw [hl]; exact q3, fun i row' hi => ?_, by simp, cs, E, fr, q6, q7, q8, fun i row' hi hlo j x' hj => ?_⟩
        · obtain ⟨row, a1, a2, _⟩ := hrow i row' hi
          rw [← a2]; exact q4 i row a1
        · obtain ⟨row, a1, a2, a3⟩ := hrow i row' hi
          obtain ⟨x, b1, b2⟩ := a3 j x' hj
          obtain ⟨v, e1, e2, e3⟩ := q9 i row a1 hlo j x b1
          exact ⟨v, e1, e2, (b2 v e3).mono (hle.only _)⟩)
  rw [hupd] at h1 h2
  exact ⟨h1, h2, .refl _ _⟩
end

theorem fz_len (l : List Nat) : ∀ (H : Heap), (H.fz l).length = H.length := by
  induction l with
  | nil => intro H; rfl
  | cons i l ih => intro H; simp [Heap.fz, ih]

theorem getD_fz (l : List Nat) (H : Heap) (k : Nat) : (H.fz l).getD k .dead = if k ∈ l then ((H.getD k .dead).fz) else H.getD k .dead := by
  simp only [List.getD, Heap.fz_get]
  cases H[k]? with
  | none => simp [O.fz]
  | some o => simp only [Option.map_some, Option.getD_some]
theorem rows_fz (l : List Nat) (H : Heap) (k : Nat) : ((H.fz l).getD k .dead).rows = (H.getD k .dead).rows := by
  rw [getD_fz]; split
  · generalize H.getD k .dead = o
    cases o <;> rfl
  · rfl
theorem refs_fz (l : List Nat) (H : Heap) (k : Nat) : ((H.fz l).getD k .dead).refs = (H.getD k .dead).refs := by
  rw [getD_fz]; split
  · generalize H.getD k .dead = o
    cases o <;> rfl
  · rfl
theorem ents_fz (l : List Nat) (H : Heap) (k : Nat) : ((H.fz l).getD k .dead).ents = (H.getD k .dead).ents := by
  rw [getD_fz]; split
  · generalize H.getD k .dead = o
    cases o <;> rfl
  · rfl
theorem isMem_fz (l : List Nat) (H : Heap) (k : Nat) : ((H.fz l).getD k .dead).isMem = (H.getD k .dead).isMem := by
  rw [getD_fz]; split
  · generalize H.getD k .dead = o
    cases o <;> rfl
  · rfl
theorem isMap_fz (l : List Nat) (H : Heap) (k : Nat) : ((H.fz l).getD k .dead).isMap = (H.getD k .dead).isMap := by
  rw [getD_fz]; split
  · generalize H.getD k .dead = o
    cases o <;> rfl
  · rfl
theorem fz_fz (l : List Nat) (H : Heap) : (H.fz l).fz l = H.fz l := by
  apply List.ext_getElem?
  intro k
  rw [Heap.fz_get, Heap.fz_get]
  cases H[k]? with
  | none => rfl
  | some o =>
    simp only [Option.map_some]
    split
    · rw [fz_idem]
    · rfl

mutual
theorem V.fz_fz {l : List Nat} {H : Heap} : ∀ (x : V), x.fz (H.fz l) = x.fz H
  | .any | .a _ | .ref .. | .view .. | .mview _ | .nul _ => rfl
  | .ptr .. => by simp only [V.fz]; rw [rows_fz]
  | .own .. => by simp only [V.fz]; rw [rows_fz]
  | .mp _ => by simp only [V.fz]; rw [ents_fz]
  | .agg cs => by simp only [V.fz]; rw [V.fzL_fz cs]
  | .tup cs => by simp only [V.fz]; rw [V.fzL_fz cs]
  | .fn g fs cs => by simp only [V.fz]; rw [V.fzL_fz fs, V.fzL_fz cs]
  | .ifc t x => by simp only [V.fz]; rw [V.fz_fz x]
theorem V.fzL_fz {l : List Nat} {H : Heap} : ∀ (xs : List V), V.fzL (H.fz l) xs = V.fzL H xs
  | [] => rfl
  | x :: xs => by simp only [V.fzL]; rw [V.fz_fz x, V.fzL_fz xs]
end
mutual
theorem V.fzP_fz {l : List Nat} {H : Heap} : ∀ (x : V), x.fzP H → x.fzP (H.fz l)
  | .any, h | .a _, h | .ref .., h | .view .., h | .mview _, h | .nul _, h => h
  | .ptr .., h => by simp only [V.fzP] at h ⊢; rw [rows_fz, refs_fz, isMem_fz]; exact h
  | .own .., h => by simp only [V.fzP] at h ⊢; rw [rows_fz, refs_fz, isMem_fz]; exact h
  | .mp _, h => by simp only [V.fzP] at h ⊢; rw [refs_fz, isMap_fz]; exact h
  | .agg cs, h => by simp only [V.fzP] at h ⊢; exact V.fzPL_fz cs h
  | .tup cs, h => by simp only [V.fzP] at h ⊢; exact V.fzPL_fz cs h
  | .fn g fs cs, h => by simp only [V.fzP] at h ⊢; exact ⟨V.fzPL_fz fs h.1, V.fzPL_fz cs h.2⟩
  | .ifc t x, h => by simp only [V.fzP] at h ⊢; exact V.fzP_fz x h
theorem V.fzPL_fz {l : List Nat} {H : Heap} : ∀ (xs : List V), V.fzPL H xs → V.fzPL (H.fz l) xs
  | [], h => h
  | x :: xs, h => by simp only [V.fzPL] at h ⊢; exact ⟨V.fzP_fz x h.1, V.fzPL_fz xs h.2⟩
end

/-- What a cell holds is frozen. -/
theorem Weak.frzc {st : St} {id i j : Nat} {refs refs' : List Nat} {rows : List (List V)} {row : List V} {x : V} (hid : st.hp[id]? = some (.mem false refs rows)) (hrow : rows[i]? = some row) (hx : row[j]? = some x) (hp : x.fzP st.hp) (hni : id ∉ x.ids)
    (hrefs : ∀ (i' : Nat) (row' : List V), rows[i']? = some row' → ∀ (j' : Nat) (y : V), row'[j']? = some y → (i' = i ∧ j' = j) ∨ ∀ k ∈ y.ids, k ∈ refs') :
    Weak st { st with hp := (st.hp.fz x.ids).set id (.mem false refs' (rows.set i (row.set j (x.fz st.hp)))) } := by
  refine ⟨rfl, fun k hk => ?_, by simp [fz_len], fun w β F N a hR => ?_⟩
  · show ((st.hp.fz x.ids).set id _)[k]? = _
    have hne : k ≠ id := by rintro rfl; rw [hid] at hk; simp at hk
    rw [getElem?_set_ne' hne, Heap.fz_get, hk]
    simp only [Option.map_some, Option.some.injEq]
    split <;> rfl
  · have hk := hR.hok
    have a1 := adv_fzL (F := F) (w := w) (β := β) x.ids hk
    have hid' : (st.hp.fz x.ids)[id]? = some (.mem false refs rows) := by
      rw [Heap.fz_get, hid]; simp [hni]
    have a2 := adv_cells (refs' := refs') (rows' := rows.set i (row.set j (x.fz st.hp))) a1.hok hid' (by simp) (fun i' row' hi' => by
      by_cases e : i = i'
      · subst e
        have hlt := lt_of_get hrow
        rw [List.getElem?_set_self hlt] at hi'
        injection hi' with hi'
        subst hi'
        refine ⟨row, hrow, by simp, fun j' x' hj' => ?_⟩
        by_cases ej : j = j'
        · subst ej
          rw [List.getElem?_set_self (lt_of_get hx)] at hj'
          injection hj' with hj'
          subst hj'
          refine ⟨x, hx, fun v hv => ?_⟩
          have hz := RV.fz (l := x.ids) a1.hok hv.up rfl (V.fzP_fz x hp) fun _ h => h
          rw [fz_fz, V.fz_fz] at hz
          exact hz.mono ⟨Nat.le_refl _, fun _ _ hn => ⟨rfl, hn⟩, fun k hl => by simp [Cx.only] at hl, fun _ _ _ e => .inl e⟩
        · rw [List.getElem?_set_ne ej] at hj'
          refine ⟨x', hj', fun v hv => ?_⟩
          rcases hrefs i row hrow j' x' hj' with ⟨_, e⟩ | h
          · exact absurd e.symm ej
          · have hv' := hv.onlyOf refs' h
            exact hv'.mono ⟨Nat.le_refl _, fun _ _ hn => ⟨rfl, hn⟩, fun k hl => ⟨hl.1, hl.2.2⟩, fun _ _ _ e => .inl e⟩
      · rw [List.getElem?_set_ne e] at hi'
        refine ⟨row', hi', rfl, fun j' x' hj' => ⟨x', hj', fun v hv => ?_⟩⟩
        rcases hrefs i' row' hi' j' x' hj' with ⟨e', _⟩ | h
        · exact absurd e'.symm e
        · have hv' := hv.onlyOf refs' h
          exact hv'.mono ⟨Nat.le_refl _, fun _ _ hn => ⟨rfl, hn⟩, fun k hl => ⟨hl.1, hl.2.2⟩, fun _ _ _ e => .inl e⟩)
    have adv := a1.trans a2
    exact ⟨β, adv, hR.adv adv⟩

/-- A cell is told otherwise. -/
theorem Weak.cellsub {st : St} {id i j : Nat} {refs refs' : List Nat} {rows : List (List V)} {row : List V} {x z : V} (hid : st.hp[id]? = some (.mem false refs rows)) (hrow : rows[i]? = some row) (hx : row[j]? = some x) (hs : x.sub z) (hz : z.ids = [])
    (hrefs : ∀ (i' : Nat) (row' : List V), rows[i']? = some row' → ∀ (j' : Nat) (y : V), row'[j']? = some y → (i' = i ∧ j' = j) ∨ ∀ k ∈ y.ids, k ∈ refs') :
    Weak st { st with hp := st.hp.set id (.mem false refs' (rows.set i (row.set j z))) } := by
  refine ⟨rfl, fun k hk => ?_, by simp, fun w β F N a hR => ?_⟩
  · show (st.hp.set id _)[k]? = _
    have hne : k ≠ id := by rintro rfl; rw [hid] at hk; simp at hk
    rw [getElem?_set_ne' hne]; exact hk
  · have hk := hR.hok
    have only : ∀ {v : Value} {y : V}, RV ((cx w.heap st.hp β F).only refs) v y → (∀ k ∈ y.ids, k ∈ refs') → RV ((cx w.heap st.hp β F).only refs') v y := fun hv h =>
      (hv.onlyOf refs' h).mono ⟨Nat.le_refl _, fun _ _ hn => ⟨rfl, hn⟩, fun k hl => ⟨hl.1, hl.2.2⟩, fun _ _ _ e => .inl e⟩
    have a2 := adv_cells (refs' := refs') (rows' := rows.set i (row.set j z)) hk hid (by simp) (fun i' row' hi' => by
      by_cases e : i = i'
      · subst e
        rw [List.getElem?_set_self (lt_of_get hrow)] at hi'
        injection hi' with hi'
        subst hi'
        refine ⟨row, hrow, by simp, fun j' x' hj' => ?_⟩
        by_cases ej : j = j'
        · subst ej
          rw [List.getElem?_set_self (lt_of_get hx)] at hj'
          injection hj' with hj'
          subst hj'
          exact ⟨x, hx, fun v hv => only (hs _ _ hv) (by rw [hz]; simp)⟩
        · rw [List.getElem?_set_ne ej] at hj'
          refine ⟨x', hj', fun v hv => ?_⟩
          rcases hrefs i row hrow j' x' hj' with ⟨_, e⟩ | h
          · exact absurd e.symm ej
          · exact only hv h
      · rw [List.getElem?_set_ne e] at hi'
        refine ⟨row', hi', rfl, fun j' x' hj' => ⟨x', hj', fun v hv => ?_⟩⟩
        rcases hrefs i' row' hi' j' x' hj' with ⟨e', _⟩ | h
        · exact absurd e'.symm e
        · exact only hv h)
    exact ⟨β, a2, hR.adv a2⟩

theorem Weak.refl (st : St) : Weak st st := ⟨rfl, fun _ h => h, Nat.le_refl _, fun w β F N a hR => ⟨β, ⟨hR.hok, .refl _, .refl _ _⟩, hR⟩⟩

/-! Results told otherwise; nil or not. -/

theorem DC.weak {P : Program} {f : FuncId} {xs : List V} {H : Heap} {Q Q' : V → Heap → Prop} (h : DC P f xs H Q) (hq : ∀ x H', Q x H' → ∃ y, x.sub y ∧ Q' y H') : DC P f xs H Q' :=
  fun w β F vs hk hr => (h w β F vs hk hr).mono fun e w' ⟨r, x, H', β', h1, h2, h3, h4⟩ => by
    obtain ⟨y, hy, hQ⟩ := hq x H' h4
    exact ⟨r, y, H', β', h1, h2, hy _ _ h3, hQ⟩

/-- A result without objects, told otherwise. -/
theorem DP.weak {P : Program} {f : FuncId} {xs : List V} {Q Q' : V → Prop} (h : DP P f xs Q) (hq : ∀ x, Q x → ∃ y, x.sub y ∧ (∀ H, y.fzP H ∧ y.fz H = y) ∧ Q' y) : DP P f xs Q' := by
  intro w β F vs hk hr
  refine (h w β F vs hk hr).mono fun e w' ⟨v, x, H', β', h1, h2, h3, g1, h4⟩ => ?_
  have adv := adv_fzL (F := F) (w := w') (β := β') x.ids h2.hok
  have hz := RV.fz (l := x.ids) h2.hok h3 rfl g1 fun i hi => hi
  obtain ⟨y, y1, y2, y3⟩ := hq _ h4
  exact ⟨v, y, H'.fz x.ids, β', h1, h2.trans adv, (y1 _ _ hz).up, (y2 _).1, by rw [(y2 _).2]; exact y3⟩

theorem DC.view_nil {P : Program} {f : FuncId} {es : Nat} {H : Heap} {Q : V → Heap → Prop} (h1 : DC P f [.a (.slice none 0 0)] H Q) (h2 : ∀ ad c, DC P f [.a (.slice (some ad) 0 c)] H Q) : DC P f [.view es []] H Q := by
  intro w β F vs hk hr
  have hs : vs.size = 1 := hr.1
  have hv := hr.2 0 (vs[0]'(by omega)) (.view es []) (by simp [hs]) rfl
  generalize e : vs[0]'(by omega) = v at hv
  have hvs : vs = #[v] := by
    apply Array.ext
    · simp [hs]
    · intro i h1 h2
      have : i = 0 := by simp at h2; omega
      subst this
      simpa using e
  subst hvs
  have one : ∀ u, RVs (cx w.heap H β F) #[u] [.a u] := fun u => ⟨rfl, fun i v x h1 h2 => by
    cases i with
    | zero => simp at h1 h2; subst h1; subst h2; exact .a
    | succ i => simp at h2⟩
  cases hv with
  | nilv => exact h1 w β F _ hk (one _)
  | view g hb hcap hlen hg hrr => exact h2 _ _ w β F _ hk (one _)

theorem V.sub.nul (es es' : Nat) : (V.nul es).sub (.view es' []) := fun c v h => by
  cases h with
  | nul =>
    rename_i ad
    cases ad with
    | none => exact .nilv
    | some ad =>
      have := RV.view (c := c) (es := es') (rows := []) (ad := ad) (cap := 0) (fun _ _ => undef) (fun h => absurd rfl h) (Nat.le_refl _) (fun i row h => by simp at h) (fun i row h => by simp at h) (fun i row h => by simp at h)
      exact this
end Go.Abs

/- Short names of the commonest steps. -/
namespace Go.Abs.G
abbrev zm (j d : Nat) (s : Nat) : It := .o j (.lt (some d) (.mov (.tmp s)))
abbrev ym (j g : Nat) (w : Bool) (d : Nat) (s : Nat) : It := .gd j g w (some d) (.lt (some d) (.mov (.tmp s)))
abbrev zk (j d : Nat) (n : Int) : It := .o j (.lt (some d) (.mov (.const (.int .i64 n))))
abbrev zb (j d : Nat) (b : Bool) : It := .o j (.lt (some d) (.mov (.const (.bool b))))
abbrev yb (j g : Nat) (w : Bool) (d : Nat) (b : Bool) : It := .gd j g w (some d) (.lt (some d) (.mov (.const (.bool b))))
abbrev zl (j d : Nat) (n s : Nat) : It := .o j (.lt (some d) (.ld false n (.tmp s)))
abbrev yl (j g : Nat) (w : Bool) (d : Nat) (n s : Nat) : It := .gd j g w (some d) (.lt (some d) (.ld false n (.tmp s)))
abbrev zL (j d : Nat) (n s : Nat) : It := .o j (.lt (some d) (.ld true n (.tmp s)))
abbrev yL (j g : Nat) (w : Bool) (d : Nat) (n s : Nat) : It := .gd j g w (some d) (.lt (some d) (.ld true n (.tmp s)))
abbrev zf (j d : Nat) (s n : Nat) : It := .o j (.lt (some d) (.fad (.tmp s) n))
abbrev yf (j g : Nat) (w : Bool) (d : Nat) (s n : Nat) : It := .gd j g w (some d) (.lt (some d) (.fad (.tmp s) n))
abbrev zc (j d : Nat) (s : Nat) : It := .o j (.lt (some d) (.nilc (.tmp s)))
abbrev yc (j g : Nat) (w : Bool) (d : Nat) (s : Nat) : It := .gd j g w (some d) (.lt (some d) (.nilc (.tmp s)))
abbrev zx (j d : Nat) (n s t : Nat) : It := .o j (.lt (some d) (.ixS n (.tmp s) (.tmp t)))
abbrev yx (j g : Nat) (w : Bool) (d : Nat) (n s t : Nat) : It := .gd j g w (some d) (.lt (some d) (.ixS n (.tmp s) (.tmp t)))
abbrev zn (j d : Nat) (s : Nat) : It := .o j (.lt (some d) (.lenSl (.tmp s)))
abbrev yn (j g : Nat) (w : Bool) (d : Nat) (s : Nat) : It := .gd j g w (some d) (.lt (some d) (.lenSl (.tmp s)))
abbrev zq (j d : Nat) (s : Nat) : It := .o j (.lt (some d) (.un .not (.tmp s)))
abbrev yq (j g : Nat) (w : Bool) (d : Nat) (s : Nat) : It := .gd j g w (some d) (.lt (some d) (.un .not (.tmp s)))
abbrev zp (j d : Nat) (s : Nat) (b : Bool) (t : Nat) : It := .o j (.lt (some d) (.pick (.tmp s) (.const (.bool b)) (.tmp t)))
abbrev yp (j g : Nat) (w : Bool) (d : Nat) (s : Nat) (b : Bool) (t : Nat) : It := .gd j g w (some d) (.lt (some d) (.pick (.tmp s) (.const (.bool b)) (.tmp t)))
abbrev zr (j d : Nat) (s t : Nat) (b : Bool) : It := .o j (.lt (some d) (.pick (.tmp s) (.tmp t) (.const (.bool b))))
abbrev yr (j g : Nat) (w : Bool) (d : Nat) (s t : Nat) (b : Bool) : It := .gd j g w (some d) (.lt (some d) (.pick (.tmp s) (.tmp t) (.const (.bool b))))
abbrev za (j d : Nat) (o : BinOp) (s t : Nat) : It := .o j (.lt (some d) (.bin o (.tmp s) (.tmp t)))
abbrev ya (j g : Nat) (w : Bool) (d : Nat) (o : BinOp) (s t : Nat) : It := .gd j g w (some d) (.lt (some d) (.bin o (.tmp s) (.tmp t)))
abbrev zd (j d : Nat) (o : BinOp) (s : Nat) (n : Int) : It := .o j (.lt (some d) (.bin o (.tmp s) (.const (.int .i64 n))))
abbrev yd (j g : Nat) (w : Bool) (d : Nat) (o : BinOp) (s : Nat) (n : Int) : It := .gd j g w (some d) (.lt (some d) (.bin o (.tmp s) (.const (.int .i64 n))))
abbrev ze (j d : Nat) (s n : Nat) : It := .o j (.lt (some d) (.ext (.tmp s) n))
abbrev zz (j d : Nat) (n : Nat) (b : Bool) (s : Nat) : It := .o j (.lt (some d) (.eqZ n b (.tmp s)))
abbrev zy (j d : Nat) (b : Bool) (s t : Nat) : It := .o j (.lt (some d) (.eqB b (.tmp s) (.tmp t)))
abbrev rk (l : List Nat) : RA := { gs := [], keep := some l }
abbrev rp (l : List Nat) (a : List (Nat × List Nat)) : RA := { gs := [], keep := some l, aps := a }
abbrev ro (l : List Nat) (o : List Nat) : RA := { gs := [], keep := some l, ord := o }
abbrev rq (l : List Nat) (o : List Nat) (a : List (Nat × List Nat)) : RA := { gs := [], keep := some l, ord := o, aps := a }
end Go.Abs.G

namespace Go.Abs.G
open Go.Proofs
set_option linter.unusedVariables false
-- slices.Sort[[]int,int]
-- slices.pdqsortOrdered[int]
-- math/bits.Len
-- slices.insertionSortOrdered[int]
-- slices.heapSortOrdered[int]
-- slices.breakPatternsOrdered[int]
-- slices.choosePivotOrdered[int]
-- slices.reverseRangeOrdered[int]
-- slices.partialInsertionSortOrdered[int]
-- cmp.Less[int]
-- slices.partitionEqualOrdered[int]
-- slices.partitionOrdered[int]
-- math/bits.Len32
-- math/bits.Len64
-- slices.siftDownOrdered[int]
-- slices.nextPowerOfTwo
-- (*slices.xorshift).Next
-- slices.medianAdjacentOrdered[int]
-- slices.medianOrdered[int]
-- cmp.isNaN[int]
-- slices.order2Ordered[int]
end Go.Abs.G

namespace Go.Abs.G
open Go.Proofs
set_option linter.unusedVariables false
def hallmarklaw6_OrderBack.id : FuncId := 3
@[simp] theorem hallmarklaw6_OrderBack.okf : okFunc Try.prog hallmarklaw6_OrderBack.id = true := by kernel_rfl
def hallmarkroom_Many.id : FuncId := 4
@[simp] theorem hallmarkroom_Many.okf : okFunc Try.prog hallmarkroom_Many.id = true := by kernel_rfl
def hallmarkroom_Count_Model.id : FuncId := 5
@[simp] theorem hallmarkroom_Count_Model.okf : okFunc Try.prog hallmarkroom_Count_Model.id = true := by kernel_rfl
def hallmarkroom_Count_Add.id : FuncId := 6
@[simp] theorem hallmarkroom_Count_Add.okf : okFunc Try.prog hallmarkroom_Count_Add.id = true := by kernel_rfl
def hallmarkroom_Count_Ok.id : FuncId := 7
@[simp] theorem hallmarkroom_Count_Ok.okf : okFunc Try.prog hallmarkroom_Count_Ok.id = true := by kernel_rfl
def hallmarklaw6_known.id : FuncId := 8
@[simp] theorem hallmarklaw6_known.okf : okFunc Try.prog hallmarklaw6_known.id = true := by kernel_rfl
def order_New.id : FuncId := 9
@[simp] theorem order_New.okf : okFunc Try.prog order_New.id = true := by kernel_rfl
def order_Order_AtLeast.id : FuncId := 10
@[simp] theorem order_Order_AtLeast.okf : okFunc Try.prog order_Order_AtLeast.id = true := by kernel_rfl
def order_Order_Of.id : FuncId := 11
@[simp] theorem order_Order_Of.okf : okFunc Try.prog order_Order_Of.id = true := by kernel_rfl
def hallmarklaw6_place.id : FuncId := 12
@[simp] theorem hallmarklaw6_place.okf : okFunc Try.prog hallmarklaw6_place.id = true := by kernel_rfl
def order_Order_Is.id : FuncId := 13
@[simp] theorem order_Order_Is.okf : okFunc Try.prog order_Order_Is.id = true := by kernel_rfl
def order_Order_Assignment.id : FuncId := 14
@[simp] theorem order_Order_Assignment.okf : okFunc Try.prog order_Order_Assignment.id = true := by kernel_rfl
def order_Order_Pick.id : FuncId := 15
@[simp] theorem order_Order_Pick.okf : okFunc Try.prog order_Order_Pick.id = true := by kernel_rfl
def order_Order_Values.id : FuncId := 16
@[simp] theorem order_Order_Values.okf : okFunc Try.prog order_Order_Values.id = true := by kernel_rfl
def order_Order_Count.id : FuncId := 17
@[simp] theorem order_Order_Count.okf : okFunc Try.prog order_Order_Count.id = true := by kernel_rfl
def hallmarklaw6_sameInts.id : FuncId := 18
@[simp] theorem hallmarklaw6_sameInts.okf : okFunc Try.prog hallmarklaw6_sameInts.id = true := by kernel_rfl
def hallmarkroom_Count_Text.id : FuncId := 19
@[simp] theorem hallmarkroom_Count_Text.okf : okFunc Try.prog hallmarkroom_Count_Text.id = true := by kernel_rfl
def hallmarkroom_Count_Con.id : FuncId := 20
@[simp] theorem hallmarkroom_Count_Con.okf : okFunc Try.prog hallmarkroom_Count_Con.id = true := by kernel_rfl
def model_Check.id : FuncId := 21
@[simp] theorem model_Check.okf : okFunc Try.prog model_Check.id = true := by kernel_rfl
def slices_ContainsFunc_Lapi_Con_api_Con.id : FuncId := 22
@[simp] theorem slices_ContainsFunc_Lapi_Con_api_Con.okf : okFunc Try.prog slices_ContainsFunc_Lapi_Con_api_Con.id = true := by kernel_rfl
def order_New_1.id : FuncId := 23
@[simp] theorem order_New_1.okf : okFunc Try.prog order_New_1.id = true := by kernel_rfl
def slices_Contains_Lint_int.id : FuncId := 24
@[simp] theorem slices_Contains_Lint_int.okf : okFunc Try.prog slices_Contains_Lint_int.id = true := by kernel_rfl
def slices_Clone_Lint_int.id : FuncId := 25
@[simp] theorem slices_Clone_Lint_int.okf : okFunc Try.prog slices_Clone_Lint_int.id = true := by kernel_rfl
def order_rows.id : FuncId := 26
@[simp] theorem order_rows.okf : okFunc Try.prog order_rows.id = true := by kernel_rfl
def order_Order_at.id : FuncId := 27
@[simp] theorem order_Order_at.okf : okFunc Try.prog order_Order_at.id = true := by kernel_rfl
def order_Order_is.id : FuncId := 28
@[simp] theorem order_Order_is.okf : okFunc Try.prog order_Order_is.id = true := by kernel_rfl
def order_place_steps.id : FuncId := 29
@[simp] theorem order_place_steps.okf : okFunc Try.prog order_place_steps.id = true := by kernel_rfl
def order_span_number.id : FuncId := 30
@[simp] theorem order_span_number.okf : okFunc Try.prog order_span_number.id = true := by kernel_rfl
def order_span_value.id : FuncId := 31
@[simp] theorem order_span_value.okf : okFunc Try.prog order_span_value.id = true := by kernel_rfl
def order_place_kinds.id : FuncId := 32
@[simp] theorem order_place_kinds.okf : okFunc Try.prog order_place_kinds.id = true := by kernel_rfl
def order_table_holds.id : FuncId := 33
@[simp] theorem order_table_holds.okf : okFunc Try.prog order_table_holds.id = true := by kernel_rfl
def hallmarkroom_Count_Lists.id : FuncId := 34
@[simp] theorem hallmarkroom_Count_Lists.okf : okFunc Try.prog hallmarkroom_Count_Lists.id = true := by kernel_rfl
def model_variable.id : FuncId := 35
@[simp] theorem model_variable.okf : okFunc Try.prog model_variable.id = true := by kernel_rfl
def model_con.id : FuncId := 36
@[simp] theorem model_con.okf : okFunc Try.prog model_con.id = true := by kernel_rfl
def model_goal.id : FuncId := 37
@[simp] theorem model_goal.okf : okFunc Try.prog model_goal.id = true := by kernel_rfl
def slices_IndexFunc_Lapi_Con_api_Con.id : FuncId := 38
@[simp] theorem slices_IndexFunc_Lapi_Con_api_Con.okf : okFunc Try.prog slices_IndexFunc_Lapi_Con_api_Con.id = true := by kernel_rfl
def slices_Index_Lint_int.id : FuncId := 39
@[simp] theorem slices_Index_Lint_int.okf : okFunc Try.prog slices_Index_Lint_int.id = true := by kernel_rfl
def model_isName.id : FuncId := 40
@[simp] theorem model_isName.okf : okFunc Try.prog model_isName.id = true := by kernel_rfl
def slices_ContainsFunc_Lapi_Var_api_Var.id : FuncId := 41
@[simp] theorem slices_ContainsFunc_Lapi_Var_api_Var.okf : okFunc Try.prog slices_ContainsFunc_Lapi_Var_api_Var.id = true := by kernel_rfl
def model_variable_1.id : FuncId := 42
@[simp] theorem model_variable_1.okf : okFunc Try.prog model_variable_1.id = true := by kernel_rfl
def model_within.id : FuncId := 43
@[simp] theorem model_within.okf : okFunc Try.prog model_within.id = true := by kernel_rfl
def model_kinds.id : FuncId := 44
@[simp] theorem model_kinds.okf : okFunc Try.prog model_kinds.id = true := by kernel_rfl
def model_terms.id : FuncId := 45
@[simp] theorem model_terms.okf : okFunc Try.prog model_terms.id = true := by kernel_rfl
def model_con_1.id : FuncId := 46
@[simp] theorem model_con_1.okf : okFunc Try.prog model_con_1.id = true := by kernel_rfl
def model_field.id : FuncId := 47
@[simp] theorem model_field.okf : okFunc Try.prog model_field.id = true := by kernel_rfl
def model_counts.id : FuncId := 48
@[simp] theorem model_counts.okf : okFunc Try.prog model_counts.id = true := by kernel_rfl
def model_wide.id : FuncId := 49
@[simp] theorem model_wide.okf : okFunc Try.prog model_wide.id = true := by kernel_rfl
def slices_ContainsFunc_Lint_int.id : FuncId := 50
@[simp] theorem slices_ContainsFunc_Lint_int.okf : okFunc Try.prog slices_ContainsFunc_Lint_int.id = true := by kernel_rfl
def model_great.id : FuncId := 51
@[simp] theorem model_great.okf : okFunc Try.prog model_great.id = true := by kernel_rfl
def slices_ContainsFunc_LLint_Lint.id : FuncId := 52
@[simp] theorem slices_ContainsFunc_LLint_Lint.okf : okFunc Try.prog slices_ContainsFunc_LLint_Lint.id = true := by kernel_rfl
def slices_IndexFunc_Lapi_Var_api_Var.id : FuncId := 53
@[simp] theorem slices_IndexFunc_Lapi_Var_api_Var.okf : okFunc Try.prog slices_IndexFunc_Lapi_Var_api_Var.id = true := by kernel_rfl
def model_lin.id : FuncId := 54
@[simp] theorem model_lin.okf : okFunc Try.prog model_lin.id = true := by kernel_rfl
def model_kinds_1.id : FuncId := 55
@[simp] theorem model_kinds_1.okf : okFunc Try.prog model_kinds_1.id = true := by kernel_rfl
def model_allDiff.id : FuncId := 56
@[simp] theorem model_allDiff.okf : okFunc Try.prog model_allDiff.id = true := by kernel_rfl
def model_element.id : FuncId := 57
@[simp] theorem model_element.okf : okFunc Try.prog model_element.id = true := by kernel_rfl
def model_kinds_2.id : FuncId := 58
@[simp] theorem model_kinds_2.okf : okFunc Try.prog model_kinds_2.id = true := by kernel_rfl
def model_kinds_3.id : FuncId := 61
@[simp] theorem model_kinds_3.okf : okFunc Try.prog model_kinds_3.id = true := by kernel_rfl
def model_reif.id : FuncId := 63
@[simp] theorem model_reif.okf : okFunc Try.prog model_reif.id = true := by kernel_rfl
def model_table.id : FuncId := 64
@[simp] theorem model_table.okf : okFunc Try.prog model_table.id = true := by kernel_rfl
def model_count.id : FuncId := 65
@[simp] theorem model_count.okf : okFunc Try.prog model_count.id = true := by kernel_rfl
def model_wide_1.id : FuncId := 66
@[simp] theorem model_wide_1.okf : okFunc Try.prog model_wide_1.id = true := by kernel_rfl
def slices_IndexFunc_Lint_int.id : FuncId := 67
@[simp] theorem slices_IndexFunc_Lint_int.okf : okFunc Try.prog slices_IndexFunc_Lint_int.id = true := by kernel_rfl
def model_great_1.id : FuncId := 68
@[simp] theorem model_great_1.okf : okFunc Try.prog model_great_1.id = true := by kernel_rfl
def slices_IndexFunc_LLint_Lint.id : FuncId := 69
@[simp] theorem slices_IndexFunc_LLint_Lint.okf : okFunc Try.prog slices_IndexFunc_LLint_Lint.id = true := by kernel_rfl
-- hallmark/hallmarklaw6.OrderBack
def hallmarklaw6_OrderBack.ann : List (Nat × RA) := [(0, rk [1, 2]), (1, rp [1, 2, 5] [(0, [1000000])]), (2, rp [1, 2, 5] [(2, [1000000])]), (3, rp [1, 2, 5] [(3, [1000000])]), (4, rp [1, 2, 52] [(1, [1000000])]), (5, rk [4]), (6, rk [1, 2, 54]), (7, rk [4]), (8, rk [1, 2, 6, 7]), (9, rk [1, 2, 6, 61]), (10, rk [4]), (11, rk [1, 2, 6, 63]), (12, rk [4]), (13, rk [1, 2, 6, 8]), (14, { gs := [(0, [.wk])], keep := some [1, 2, 6, 8, 9] }), (15, rk [1, 2, 6, 8, 9, 10]), (16, rk [1, 2, 6, 8, 9, 10, 68]), (17, rk [1, 2, 6, 8, 9, 10]), (18, ro [1, 2, 6, 8, 9, 10, 11, 12] [0, 1, 2, 3, 4, 5, 6, 7, 8, 9, 10, 11, 12, 13]), (19, rk [1, 2, 6, 8, 9, 10, 11, 12, 13]), (20, rk [1, 2, 6, 8, 9, 10, 11, 12, 13, 87]), (21, rk [1, 2, 6, 8, 9, 10, 11, 12, 13]), (22, rk [1, 2, 6, 8, 9, 10, 11, 12, 13, 14, 15]), (23, rk [1, 2, 6, 8, 9, 10, 11, 12, 13, 14, 15, 16, 17]), (24, rk [1, 2, 6, 8, 9, 10, 11, 12, 13, 14, 15, 16, 17]), (25, rk [1, 2, 6, 8, 9, 10, 11, 12, 13, 122]), (26, rk [4]), (27, rk [1, 2, 6, 8, 9, 10, 11, 12, 18]), (28, rk [1, 2, 6, 8, 9, 10, 11, 12, 18, 127]), (29, rk [1, 2, 6, 8, 9, 10, 18]), (30, rp [1, 2, 6, 8, 9, 10] [(2, [1000004])]), (31, { gs := [(0, [.frz 8])], keep := some [2, 6, 8, 9, 19] }), (32, rk [2, 6, 8, 9, 19, 147]), (33, rk [2, 6, 8, 9, 19]), (34, ro [2, 6, 8, 9, 19, 20, 21] [0, 1, 2, 3, 4, 5, 6, 7, 8, 9, 10, 11, 12, 13]), (35, rk [2, 6, 8, 9, 19, 20, 21, 23]), (36, rk [2, 6, 8, 9, 19, 21, 23, 24]), (37, rk [2, 6, 8, 9, 19, 21, 23, 24, 176]), (38, rk [2, 6, 8, 9, 19, 21, 23, 24]), (39, rk [2, 6, 8, 9, 19, 21, 23, 24, 25, 26]), (40, rk [2, 6, 8, 9, 19, 21, 23, 24, 25, 26, 27, 28]), (41, rk [2, 6, 8, 9, 19, 21, 23, 24, 25, 26, 27, 28]), (42, rk [2, 6, 8, 9, 19, 21, 23, 24, 211]), (43, rk [4]), (44, rk [2, 6, 8, 9, 29, 30]), (45, rk [2, 6, 8, 9, 29, 30, 31]), (46, rk [2, 6, 8, 9, 29, 30, 31, 222]), (47, rk [2, 6, 8, 9, 29, 30, 31]), (48, rk [2, 6, 8, 9, 29, 30, 31, 32]), (49, rk [2, 6, 8, 9, 29, 30, 31, 32, 33]), (50, rk [2, 6, 8, 9, 29, 30, 31, 32, 33, 234]), (51, rk [2, 6, 8, 9, 29, 30, 31, 32, 33]), (52, rk [2, 6, 8, 9, 29, 30, 31, 32, 33, 34, 35]), (53, rk [2, 6, 8, 9, 29, 30, 31, 32, 33, 34, 35, 36, 37]), (54, rk [2, 6, 8, 9, 29, 30, 31, 32, 33, 34, 35, 36, 37]), (55, rk [2, 6, 8, 9, 29, 30, 31, 32, 33, 279]), (56, rk [4]), (57, rk [2, 6, 8, 9, 29, 30, 31, 32, 33, 38]), (58, rk [2, 6, 8, 9, 29, 30, 31, 32, 33, 38, 39]), (59, rk [2, 6, 8, 9, 29, 30, 31, 32, 33, 38, 39, 284]), (60, rk [2, 6, 8, 9, 29, 30, 31, 32, 33, 38, 39]), (61, ro [2, 6, 8, 9, 29, 30, 31, 32, 33, 38, 39] [0, 1, 2, 3, 4, 5, 6, 7, 8, 9, 10, 11, 12, 13, 14, 15, 16, 17, 18, 19, 20]), (62, rk [2, 6, 8, 9, 29, 30, 31, 32, 33, 313]), (63, rk [4]), (64, rk [6, 8, 9, 30, 40, 41]), (65, rk [4])]
def hallmarklaw6_OrderBack.b6 : C := .seq (.seq (.reg 0 [zm 0 280 39, zf 1 281 32 7, zl 2 282 1 281, zn 3 283 282, za 4 284 .lss 280 283, .g (.keep [2, 6, 8, 9, 29, 30, 31, 32, 33, 38, 39, 284])]) (.cond (.tmp 284) (.skip) (.exit 12))) (.seq (.block 13 (.reg 0 [zm 0 287 38, zm 1 288 287, ym 2 288 true 289 8, yf 3 288 true 290 32 7, yl 4 288 true 291 1 290, ym 5 288 true 292 39, yx 6 288 true 293 1 291 292, yl 7 288 true 294 1 293, yx 8 288 true 295 1 289 294, yl 9 288 true 296 1 295, yf 10 288 true 297 32 9, yl 11 288 true 298 1 297, ym 12 288 true 299 33, yx 13 288 true 300 1 298 299, yl 14 288 true 301 1 300, ym 15 288 true 302 39, yx 16 288 true 303 1 301 302, yl 17 288 true 304 1 303, ya 18 288 true 305 .eql 296 304, zr 19 306 288 305 false, zm 20 38 306, .g (.keep [2, 6, 8, 9, 29, 30, 31, 32, 33, 38, 39])])) (.reg 0 [zm 0 285 39, zd 1 286 .add 285 1, zm 2 39 286, .g (.keep [2, 6, 8, 9, 29, 30, 31, 32, 33, 38, 39])]))
def hallmarklaw6_OrderBack.b5 : C := .seq (.seq (.reg 0 [zm 0 230 33, zf 1 231 32 9, zl 2 232 1 231, zn 3 233 232, za 4 234 .lss 230 233, .g (.keep [2, 6, 8, 9, 29, 30, 31, 32, 33, 234])]) (.cond (.tmp 234) (.skip) (.exit 10))) (.seq (.block 11 (.seq (.reg 0 [zm 0 238 6, zm 1 239 31, zm 2 240 33, .o 3 (.call (some 241) order_Order_Pick.id [(.tmp 238), (.tmp 239), (.tmp 240)]), zm 4 237 241, ze 5 242 237 0, ze 6 243 237 1, zm 7 34 242, zm 8 35 243, .g (.keep [2, 6, 8, 9, 29, 30, 31, 32, 33, 34, 35])]) (.seq (.reg 1 [zm 0 245 6, zm 1 246 34, .o 2 (.call (some 247) order_Order_Of.id [(.tmp 245), (.tmp 246)]), zm 3 244 247, ze 4 248 244 0, ze 5 249 244 1, .o 6 (.alloc (some 36) 0 6 [.a (.int .i64 0), .a (.int .i64 0), .a (.bool false), .a (.int .i64 0), .a (.int .i64 0), .a (.bool false)]), .o 7 (.store [] 6 (.tmp 36) (.tmp 248)), zm 8 37 249, .g (.keep [2, 6, 8, 9, 29, 30, 31, 32, 33, 34, 35, 36, 37])]) (.seq (.seq (.reg 0 [zm 0 250 9, zd 1 251 .add 250 1, zm 2 9 251, .g (.keep [2, 6, 8, 9, 29, 30, 31, 32, 33, 34, 35, 36, 37])]) (.seq (.reg 0 [zm 0 252 35, zd 1 253 .neq 252 1, zm 2 254 253, ym 3 254 false 255 34, ym 4 254 false 256 9, ya 5 254 false 257 .neq 255 256, zp 6 258 254 true 257, zm 7 259 258, ym 8 259 false 260 37, yq 9 259 false 261 260, zp 10 262 259 true 261, zm 11 263 262, yL 12 263 false 264 6 36, ym 13 263 false 265 31, ym 14 263 false 266 33, .gd 15 263 false (some 267) (.lt (some 267) (.build [.a (.int .i64 0), .a (.int .i64 0), .a (.bool false), .a (.int .i64 0), .a (.int .i64 0), .a (.bool false)] [(3, 1, (.tmp 265)), (4, 1, (.tmp 266)), (5, 1, (.const (.bool true)))])), .gd 16 263 false (some 268) (.lt (some 268) (.eqD true [(0, 0), (1, 0), (2, 2), (3, 0), (4, 0), (5, 2)] (.tmp 264) (.tmp 267))), zp 17 269 263 true 268, zm 18 270 269, ym 19 270 false 271 30, yq 20 270 false 272 271, zp 21 273 270 true 272, zm 22 274 273, ym 23 274 false 275 29, yn 24 274 false 276 275, ym 25 274 false 277 9, ya 26 274 false 278 .lss 276 277, zp 27 279 274 true 278, .g (.keep [2, 6, 8, 9, 29, 30, 31, 32, 33, 279])]) (.cond (.tmp 279) (.seq (.reg 0 [zb 0 4 false, .g (.keep [4])]) (.ret)) (.skip)))) (.seq (.reg 0 [zb 0 38 true, .g (.keep [2, 6, 8, 9, 29, 30, 31, 32, 33, 38])]) (.seq (.seq (.reg 0 [zk 0 39 0, .g (.keep [2, 6, 8, 9, 29, 30, 31, 32, 33, 38, 39])]) (.block 12 (.loop hallmarklaw6_OrderBack.b6))) (.seq (.reg 0 [zm 0 307 29, zm 1 308 9, zd 2 309 .sub 308 1, zx 3 310 1 307 309, zl 4 311 1 310, zm 5 312 38, zy 6 313 true 311 312, .g (.keep [2, 6, 8, 9, 29, 30, 31, 32, 33, 313])]) (.cond (.tmp 313) (.seq (.reg 0 [zb 0 4 false, .g (.keep [4])]) (.ret)) (.skip))))))))) (.reg 0 [zm 0 235 33, zd 1 236 .add 235 1, zm 2 33 236, .g (.keep [2, 6, 8, 9, 29, 30, 31, 32, 33])]))
def hallmarklaw6_OrderBack.b4 : C := .seq (.seq (.reg 0 [zm 0 218 31, zf 1 219 2 1, zl 2 220 1 219, zn 3 221 220, za 4 222 .lss 218 221, .g (.keep [2, 6, 8, 9, 29, 30, 31, 222])]) (.cond (.tmp 222) (.skip) (.exit 8))) (.seq (.block 9 (.seq (.reg 1 [zf 0 225 2 1, zl 1 226 1 225, zm 2 227 31, zx 3 228 10 226 227, zL 4 229 10 228, .o 5 (.alloc (some 32) 0 10 [.a (.int .i64 0), .a (.int .i64 0), .a (.slice none 0 0), .a (.int .i64 0), .a (.int .i64 0), .a (.int .i64 0), .a (.int .i64 0), .a (.slice none 0 0), .a (.slice none 0 0), .a (.slice none 0 0)]), .o 6 (.store [] 10 (.tmp 32) (.tmp 229)), .g (.keep [2, 6, 8, 9, 29, 30, 31, 32])]) (.seq (.reg 0 [zk 0 33 0, .g (.keep [2, 6, 8, 9, 29, 30, 31, 32, 33])]) (.block 10 (.loop hallmarklaw6_OrderBack.b5))))) (.reg 0 [zm 0 223 31, zd 1 224 .add 223 1, zm 2 31 224, .g (.keep [2, 6, 8, 9, 29, 30, 31])]))
def hallmarklaw6_OrderBack.b3 : C := .seq (.seq (.reg 0 [zm 0 170 24, zm 1 171 21, za 2 172 .leq 170 171, zm 3 173 172, ym 4 173 true 174 23, yd 5 173 true 175 .eql 174 1, zr 6 176 173 175 false, .g (.keep [2, 6, 8, 9, 19, 21, 23, 24, 176])]) (.cond (.tmp 176) (.skip) (.exit 6))) (.seq (.block 7 (.seq (.reg 0 [zm 0 180 6, zm 1 181 19, zm 2 182 24, .o 3 (.call (some 183) order_Order_Is.id [(.tmp 180), (.tmp 181), (.tmp 182)]), zm 4 179 183, ze 5 184 179 0, ze 6 185 179 1, zm 7 25 184, zm 8 26 185, .g (.keep [2, 6, 8, 9, 19, 21, 23, 24, 25, 26])]) (.seq (.reg 1 [zm 0 187 6, zm 1 188 25, .o 2 (.call (some 189) order_Order_Of.id [(.tmp 187), (.tmp 188)]), zm 3 186 189, ze 4 190 186 0, ze 5 191 186 1, .o 6 (.alloc (some 27) 0 6 [.a (.int .i64 0), .a (.int .i64 0), .a (.bool false), .a (.int .i64 0), .a (.int .i64 0), .a (.bool false)]), .o 7 (.store [] 6 (.tmp 27) (.tmp 190)), zm 8 28 191, .g (.keep [2, 6, 8, 9, 19, 21, 23, 24, 25, 26, 27, 28])]) (.seq (.reg 0 [zm 0 192 9, zd 1 193 .add 192 1, zm 2 9 193, .g (.keep [2, 6, 8, 9, 19, 21, 23, 24, 25, 26, 27, 28])]) (.seq (.reg 0 [zm 0 194 26, zd 1 195 .neq 194 1, zm 2 196 195, ym 3 196 false 197 25, ym 4 196 false 198 9, ya 5 196 false 199 .neq 197 198, zp 6 200 196 true 199, zm 7 201 200, ym 8 201 false 202 28, yq 9 201 false 203 202, zp 10 204 201 true 203, zm 11 205 204, yL 12 205 false 206 6 27, ym 13 205 false 207 19, ym 14 205 false 208 24, .gd 15 205 false (some 209) (.lt (some 209) (.build [.a (.int .i64 0), .a (.int .i64 0), .a (.bool false), .a (.int .i64 0), .a (.int .i64 0), .a (.bool false)] [(0, 1, (.tmp 207)), (1, 1, (.tmp 208)), (2, 1, (.const (.bool true)))])), .gd 16 205 false (some 210) (.lt (some 210) (.eqD true [(0, 0), (1, 0), (2, 2), (3, 0), (4, 0), (5, 2)] (.tmp 206) (.tmp 209))), zp 17 211 205 true 210, .g (.keep [2, 6, 8, 9, 19, 21, 23, 24, 211])]) (.cond (.tmp 211) (.seq (.reg 0 [zb 0 4 false, .g (.keep [4])]) (.ret)) (.skip))))))) (.reg 0 [zm 0 177 24, zd 1 178 .add 177 1, zm 2 24 178, .g (.keep [2, 6, 8, 9, 19, 21, 23, 24])]))
def hallmarklaw6_OrderBack.b2 : C := .seq (.seq (.reg 0 [zm 0 143 19, zf 1 144 2 0, zl 2 145 1 144, zn 3 146 145, za 4 147 .lss 143 146, .g (.keep [2, 6, 8, 9, 19, 147])]) (.cond (.tmp 147) (.skip) (.exit 4))) (.seq (.block 5 (.seq (.reg 0 [zf 0 150 2 0, zl 1 151 1 150, zm 2 152 19, zx 3 153 3 151 152, zf 4 154 153 1, zl 5 155 1 154, zf 6 156 2 0, zl 7 157 1 156, zm 8 158 19, zx 9 159 3 157 158, zf 10 160 159 2, zl 11 161 1 160, zm 12 20 155, zm 13 21 161, .g (.keep [2, 6, 8, 9, 19, 20, 21])]) (.seq (.reg 0 [zm 0 163 6, zm 1 164 19, zm 2 165 20, .o 3 (.call (some 166) order_Order_Is.id [(.tmp 163), (.tmp 164), (.tmp 165)]), zm 4 162 166, ze 5 167 162 0, ze 6 168 162 1, zm 7 22 167, zm 8 23 168, .g (.keep [2, 6, 8, 9, 19, 20, 21, 23])]) (.seq (.reg 0 [zm 0 169 20, zm 1 24 169, .g (.keep [2, 6, 8, 9, 19, 21, 23, 24])]) (.block 6 (.loop hallmarklaw6_OrderBack.b3)))))) (.reg 0 [zm 0 148 19, zd 1 149 .add 148 1, zm 2 19 149, .g (.keep [2, 6, 8, 9, 19])]))
def hallmarklaw6_OrderBack.b1 : C := .seq (.seq (.reg 0 [zm 0 85 13, zm 1 86 12, za 2 87 .leq 85 86, .g (.keep [1, 2, 6, 8, 9, 10, 11, 12, 13, 87])]) (.cond (.tmp 87) (.skip) (.exit 2))) (.seq (.block 3 (.seq (.reg 0 [zm 0 91 6, zm 1 92 10, zm 2 93 13, .o 3 (.call (some 94) order_Order_AtLeast.id [(.tmp 91), (.tmp 92), (.tmp 93)]), zm 4 90 94, ze 5 95 90 0, ze 6 96 90 1, zm 7 14 95, zm 8 15 96, .g (.keep [1, 2, 6, 8, 9, 10, 11, 12, 13, 14, 15])]) (.seq (.reg 1 [zm 0 98 6, zm 1 99 14, .o 2 (.call (some 100) order_Order_Of.id [(.tmp 98), (.tmp 99)]), zm 3 97 100, ze 4 101 97 0, ze 5 102 97 1, .o 6 (.alloc (some 16) 0 6 [.a (.int .i64 0), .a (.int .i64 0), .a (.bool false), .a (.int .i64 0), .a (.int .i64 0), .a (.bool false)]), .o 7 (.store [] 6 (.tmp 16) (.tmp 101)), zm 8 17 102, .g (.keep [1, 2, 6, 8, 9, 10, 11, 12, 13, 14, 15, 16, 17])]) (.seq (.reg 0 [zm 0 103 9, zd 1 104 .add 103 1, zm 2 9 104, .g (.keep [1, 2, 6, 8, 9, 10, 11, 12, 13, 14, 15, 16, 17])]) (.seq (.reg 0 [zm 0 105 15, zd 1 106 .neq 105 1, zm 2 107 106, ym 3 107 false 108 14, ym 4 107 false 109 9, ya 5 107 false 110 .neq 108 109, zp 6 111 107 true 110, zm 7 112 111, ym 8 112 false 113 17, yq 9 112 false 114 113, zp 10 115 112 true 114, zm 11 116 115, yL 12 116 false 117 6 16, ym 13 116 false 118 10, ym 14 116 false 119 13, .gd 15 116 false (some 120) (.lt (some 120) (.build [.a (.int .i64 0), .a (.int .i64 0), .a (.bool false), .a (.int .i64 0), .a (.int .i64 0), .a (.bool false)] [(0, 1, (.tmp 118)), (1, 1, (.tmp 119))])), .gd 16 116 false (some 121) (.lt (some 121) (.eqD true [(0, 0), (1, 0), (2, 2), (3, 0), (4, 0), (5, 2)] (.tmp 117) (.tmp 120))), zp 17 122 116 true 121, .g (.keep [1, 2, 6, 8, 9, 10, 11, 12, 13, 122])]) (.cond (.tmp 122) (.seq (.reg 0 [zb 0 4 false, .g (.keep [4])]) (.ret)) (.skip))))))) (.reg 0 [zm 0 88 13, zd 1 89 .add 88 1, zm 2 13 89, .g (.keep [1, 2, 6, 8, 9, 10, 11, 12, 13])]))
def hallmarklaw6_OrderBack.b0 : C := .seq (.seq (.reg 0 [zm 0 64 10, zf 1 65 2 0, zl 2 66 1 65, zn 3 67 66, za 4 68 .lss 64 67, .g (.keep [1, 2, 6, 8, 9, 10, 68])]) (.cond (.tmp 68) (.skip) (.exit 0))) (.seq (.block 1 (.seq (.reg 0 [zf 0 71 2 0, zl 1 72 1 71, zm 2 73 10, zx 3 74 3 72 73, zf 4 75 74 1, zl 5 76 1 75, zf 6 77 2 0, zl 7 78 1 77, zm 8 79 10, zx 9 80 3 78 79, zf 10 81 80 2, zl 11 82 1 81, zm 12 11 76, zm 13 12 82, .g (.keep [1, 2, 6, 8, 9, 10, 11, 12])]) (.seq (.seq (.reg 0 [zm 0 83 11, zd 1 84 .add 83 1, zm 2 13 84, .g (.keep [1, 2, 6, 8, 9, 10, 11, 12, 13])]) (.block 2 (.loop hallmarklaw6_OrderBack.b1))) (.seq (.reg 0 [zm 0 123 11, zm 1 18 123, .g (.keep [1, 2, 6, 8, 9, 10, 11, 12, 18])]) (.seq (.seq (.reg 0 [zm 0 124 10, zm 1 125 1, zn 2 126 125, za 3 127 .lss 124 126, .g (.keep [1, 2, 6, 8, 9, 10, 11, 12, 18, 127])]) (.cond (.tmp 127) (.reg 0 [zm 0 128 11, zm 1 129 1, zm 2 130 10, zx 3 131 1 129 130, zl 4 132 1 131, zm 5 133 12, zm 6 134 11, za 7 135 .sub 133 134, zd 8 136 .add 135 1, .o 9 (.call (some 137) hallmarklaw6_place.id [(.tmp 132), (.tmp 136)]), za 10 138 .add 128 137, zm 11 18 138, .g (.keep [1, 2, 6, 8, 9, 10, 18])]) (.skip))) (.reg 2 [zm 0 139 8, zm 1 140 18, .o 2 (.bsv (some 141) 1 1 [.a (.int .i64 0)] [(0, (.tmp 140))]), .o 3 (.app [] (some 142) 1 1 8 (.tmp 139) (.tmp 141)), zm 4 8 142, .g (.keep [1, 2, 6, 8, 9, 10])])))))) (.reg 0 [zm 0 69 10, zd 1 70 .add 69 1, zm 2 10 70, .g (.keep [1, 2, 6, 8, 9, 10])]))
def hallmarklaw6_OrderBack.ir : C := .seq (.reg 1 [.o 0 (.box (some 2) 0 4 (.tmp 0)), zb 1 4 false, .g (.keep [1, 2])]) (.seq (.reg 0 [.o 0 (.callm (some 42) (.func hallmarkroom_Many.id) [(.const (.int .i64 20000))]), zm 1 5 42, .g (.keep [1, 2, 5])]) (.seq (.reg 0 [zm 0 43 5, zL 1 44 4 2, .o 2 (.callm (some 45) (.func hallmarkroom_Count_Model.id) [(.tmp 43), (.tmp 44)]), .g (.keep [1, 2, 5])]) (.seq (.reg 0 [zm 0 46 5, zm 1 47 1, zn 2 48 47, .o 3 (.callm (some 49) (.func hallmarkroom_Count_Add.id) [(.tmp 46), (.tmp 48)]), .g (.keep [1, 2, 5])]) (.seq (.seq (.reg 0 [zm 0 50 5, .o 1 (.callm (some 51) (.func hallmarkroom_Count_Ok.id) [(.tmp 50)]), zq 2 52 51, .g (.keep [1, 2, 52])]) (.cond (.tmp 52) (.seq (.reg 0 [zb 0 4 true, .g (.keep [4])]) (.ret)) (.skip))) (.seq (.seq (.reg 0 [.o 0 (.call (some 53) hallmarklaw6_known.id []), zq 1 54 53, .g (.keep [1, 2, 54])]) (.cond (.tmp 54) (.seq (.reg 0 [zb 0 4 false, .g (.keep [4])]) (.ret)) (.skip))) (.seq (.reg 0 [zL 0 56 4 2, .o 1 (.call (some 57) order_New.id [(.tmp 56)]), zm 2 55 57, ze 3 58 55 0, ze 4 59 55 1, zm 5 6 58, zm 6 7 59, .g (.keep [1, 2, 6, 7])]) (.seq (.seq (.reg 0 [zm 0 60 7, zd 1 61 .neq 60 0, .g (.keep [1, 2, 6, 61])]) (.cond (.tmp 61) (.seq (.reg 0 [zb 0 4 true, .g (.keep [4])]) (.ret)) (.skip))) (.seq (.seq (.reg 0 [zm 0 62 6, zz 1 63 0 false 62, .g (.keep [1, 2, 6, 63])]) (.cond (.tmp 63) (.seq (.reg 0 [zb 0 4 false, .g (.keep [4])]) (.ret)) (.skip))) (.seq (.reg 0 [.o 0 (.lt (some 8) (.mov (.const (.slice none 0 0)))), .g (.keep [1, 2, 6, 8])]) (.seq (.reg 0 [.g (.wk), zk 0 9 0, .g (.keep [1, 2, 6, 8, 9])]) (.seq (.seq (.reg 0 [zk 0 10 0, .g (.keep [1, 2, 6, 8, 9, 10])]) (.block 0 (.loop hallmarklaw6_OrderBack.b0))) (.seq (.seq (.reg 0 [.g (.frz 8), zk 0 19 0, .g (.keep [2, 6, 8, 9, 19])]) (.block 4 (.loop hallmarklaw6_OrderBack.b2))) (.seq (.reg 0 [zm 0 213 6, zm 1 214 8, .o 2 (.call (some 215) order_Order_Assignment.id [(.tmp 213), (.tmp 214)]), zm 3 212 215, ze 4 216 212 0, ze 5 217 212 1, zm 6 29 216, zm 7 30 217, .g (.keep [2, 6, 8, 9, 29, 30])]) (.seq (.seq (.reg 0 [zk 0 31 0, .g (.keep [2, 6, 8, 9, 29, 30, 31])]) (.block 8 (.loop hallmarklaw6_OrderBack.b4))) (.seq (.reg 0 [zm 0 315 6, zm 1 316 29, .o 2 (.call (some 317) order_Order_Values.id [(.tmp 315), (.tmp 316)]), zm 3 314 317, ze 4 318 314 0, ze 5 319 314 1, zm 6 40 318, zm 7 41 319, .g (.keep [6, 8, 9, 30, 40, 41])]) (.seq (.reg 0 [zm 0 320 9, zm 1 321 6, .o 2 (.call (some 322) order_Order_Count.id [(.tmp 321)]), za 3 323 .eql 320 322, zm 4 324 323, ym 5 324 true 325 30, zr 6 326 324 325 false, zm 7 327 326, ym 8 327 true 328 41, zr 9 329 327 328 false, zm 10 330 329, ym 11 330 true 331 40, ym 12 330 true 332 8, .gd 13 330 true (some 333) (.call (some 333) hallmarklaw6_sameInts.id [(.tmp 331), (.tmp 332)]), zr 14 334 330 333 false, zm 15 4 334, .g (.keep [4])]) (.ret)))))))))))))))))
def hallmarklaw6_OrderBack.rs : List Rs := [.sl 4]
theorem hallmarklaw6_OrderBack.ok : isFn Try.prog hallmarklaw6_OrderBack.id 335 hallmarklaw6_OrderBack.ann hallmarklaw6_OrderBack.ir hallmarklaw6_OrderBack.rs := ⟨Try.f3, _, Try.func3, rfl, rfl, by kernel_rfl, by kernel_rfl⟩
-- hallmark/hallmarkroom.Many
def hallmarkroom_Many.ann : List (Nat × RA) := [(0, rk [0]), (1, rk [2])]
def hallmarkroom_Many.ir : C := .seq (.reg 0 [.o 0 (.lt (some 2) (.mov (.const (.pointer none)))), .g (.keep [0])]) (.seq (.reg 1 [zm 0 3 0, .o 1 (.lt (some 4) (.build [.a (.int .i64 0)] [(0, 1, (.tmp 3))])), .o 2 (.box (some 5) 0 1 (.tmp 4)), zm 3 2 5, .g (.keep [2])]) (.ret))
def hallmarkroom_Many.rs : List Rs := [.sl 2]
theorem hallmarkroom_Many.ok : isFn Try.prog hallmarkroom_Many.id 6 hallmarkroom_Many.ann hallmarkroom_Many.ir hallmarkroom_Many.rs := ⟨Try.f4, _, Try.func4, rfl, rfl, by kernel_rfl, by kernel_rfl⟩
-- (*hallmark/hallmarkroom.Count).Model
def hallmarkroom_Count_Model.ann : List (Nat × RA) := [(0, rk [0, 3]), (1, rk [0, 3, 4]), (2, rp [0, 3, 4, 14] [(7, [1000000])]), (3, rk [0, 3, 4]), (4, rp [0, 3, 4] [(7, [1000000])]), (5, rk [0, 3, 5]), (6, rp [0, 3, 5, 33] [(7, [1000000])]), (7, rk [0, 3, 5]), (8, rp [0, 3, 5] [(6, [1000000])]), (9, rp [] [(4, [1000000])])]
def hallmarkroom_Count_Model.b1 : C := .seq (.seq (.reg 0 [zm 0 25 5, zf 1 26 3 1, zl 2 27 1 26, zn 3 28 27, za 4 29 .lss 25 28, zm 5 30 29, ym 6 30 true 31 0, .gd 7 30 true (some 32) (.callm (some 32) (.func hallmarkroom_Count_Ok.id) [(.tmp 31)]), zr 8 33 30 32 false, .g (.keep [0, 3, 5, 33])]) (.cond (.tmp 33) (.skip) (.exit 2))) (.seq (.block 3 (.reg 0 [zm 0 36 0, zf 1 37 3 1, zl 2 38 1 37, zm 3 39 5, zx 4 40 10 38 39, zL 5 41 10 40, .o 6 (.callm (some 42) (.func hallmarkroom_Count_Con.id) [(.tmp 36), (.tmp 41)]), .g (.keep [0, 3, 5])])) (.reg 0 [zm 0 34 5, zd 1 35 .add 34 1, zm 2 5 35, .g (.keep [0, 3, 5])]))
def hallmarkroom_Count_Model.b0 : C := .seq (.seq (.reg 0 [zm 0 6 4, zf 1 7 3 0, zl 2 8 1 7, zn 3 9 8, za 4 10 .lss 6 9, zm 5 11 10, ym 6 11 true 12 0, .gd 7 11 true (some 13) (.callm (some 13) (.func hallmarkroom_Count_Ok.id) [(.tmp 12)]), zr 8 14 11 13 false, .g (.keep [0, 3, 4, 14])]) (.cond (.tmp 14) (.skip) (.exit 0))) (.seq (.block 1 (.reg 0 [zm 0 17 0, zf 1 18 3 0, zl 2 19 1 18, zm 3 20 4, zx 4 21 3 19 20, zf 5 22 21 0, zl 6 23 1 22, .o 7 (.callm (some 24) (.func hallmarkroom_Count_Text.id) [(.tmp 17), (.tmp 23)]), .g (.keep [0, 3, 4])])) (.reg 0 [zm 0 15 4, zd 1 16 .add 15 1, zm 2 4 16, .g (.keep [0, 3, 4])]))
def hallmarkroom_Count_Model.ir : C := .seq (.reg 1 [.o 0 (.box (some 3) 0 4 (.tmp 1)), .g (.keep [0, 3])]) (.seq (.seq (.reg 0 [zk 0 4 0, .g (.keep [0, 3, 4])]) (.block 0 (.loop hallmarkroom_Count_Model.b0))) (.seq (.seq (.reg 0 [zk 0 5 0, .g (.keep [0, 3, 5])]) (.block 2 (.loop hallmarkroom_Count_Model.b1))) (.reg 0 [zm 0 43 0, zf 1 44 3 3, zl 2 45 1 44, zn 3 46 45, .o 4 (.callm (some 47) (.func hallmarkroom_Count_Add.id) [(.tmp 43), (.tmp 46)]), .g (.keep [])])))
def hallmarkroom_Count_Model.rs : List Rs := []
theorem hallmarkroom_Count_Model.ok : isFn Try.prog hallmarkroom_Count_Model.id 48 hallmarkroom_Count_Model.ann hallmarkroom_Count_Model.ir hallmarkroom_Count_Model.rs := ⟨Try.f5, _, Try.func5, rfl, rfl, by kernel_rfl, by kernel_rfl⟩
-- (*hallmark/hallmarkroom.Count).Add
def hallmarkroom_Count_Add.ann : List (Nat × RA) := [(0, rk [0, 1]), (1, rk [0, 1, 9]), (2, rk [0]), (3, rk [4])]
def hallmarkroom_Count_Add.ir : C := .seq (.reg 0 [zb 0 4 false, .g (.keep [0, 1])]) (.seq (.seq (.reg 0 [zm 0 5 0, zc 1 6 5, zf 2 7 6 0, zl 3 8 1 7, zd 4 9 .geq 8 0, .g (.keep [0, 1, 9])]) (.cond (.tmp 9) (.reg 0 [zm 0 10 0, zm 1 11 0, zc 2 12 11, zf 3 13 12 0, zl 4 14 1 13, zm 5 15 1, za 6 16 .sub 14 15, zc 7 17 10, zf 8 18 17 0, .o 9 (.store [] 1 (.tmp 18) (.tmp 16)), .g (.keep [0])]) (.skip))) (.seq (.reg 0 [zm 0 19 0, zc 1 20 19, zf 2 21 20 0, zl 3 22 1 21, zd 4 23 .geq 22 0, zm 5 4 23, .g (.keep [4])]) (.ret)))
def hallmarkroom_Count_Add.rs : List Rs := [.sl 4]
theorem hallmarkroom_Count_Add.ok : isFn Try.prog hallmarkroom_Count_Add.id 24 hallmarkroom_Count_Add.ann hallmarkroom_Count_Add.ir hallmarkroom_Count_Add.rs := ⟨Try.f6, _, Try.func6, rfl, rfl, by kernel_rfl, by kernel_rfl⟩
-- (*hallmark/hallmarkroom.Count).Ok
def hallmarkroom_Count_Ok.ann : List (Nat × RA) := [(0, rk [0]), (1, rk [2])]
def hallmarkroom_Count_Ok.ir : C := .seq (.reg 0 [zb 0 2 false, .g (.keep [0])]) (.seq (.reg 0 [zm 0 3 0, zc 1 4 3, zf 2 5 4 0, zl 3 6 1 5, zd 4 7 .geq 6 0, zm 5 2 7, .g (.keep [2])]) (.ret))
def hallmarkroom_Count_Ok.rs : List Rs := [.sl 2]
theorem hallmarkroom_Count_Ok.ok : isFn Try.prog hallmarkroom_Count_Ok.id 8 hallmarkroom_Count_Ok.ann hallmarkroom_Count_Ok.ir hallmarkroom_Count_Ok.rs := ⟨Try.f7, _, Try.func7, rfl, rfl, by kernel_rfl, by kernel_rfl⟩
-- hallmark/hallmarklaw6.known
def hallmarklaw6_known.ann : List (Nat × RA) := [(0, rk []), (1, rp [1, 2] [(2, [1000004]), (3, [1000004]), (5, [1000004])]), (2, rk [1, 36]), (3, rk [0]), (4, rk [1, 3, 4]), (5, rk [1, 3, 4, 5, 6]), (6, rk [1, 3, 4, 5, 6, 7, 8]), (7, rk [1, 3, 4, 5, 6, 7, 8, 9, 10]), (8, rp [1, 3, 4, 5, 6, 7, 8, 9, 10, 11, 12] [(1, [1000004])]), (9, rk [3, 4, 5, 6, 7, 8, 9, 10, 11, 12, 13, 14]), (10, rp [0] [(64, [1000004])])]
def hallmarklaw6_known.ir : C := .seq (.reg 0 [zb 0 0 false, .g (.keep [])]) (.seq (.reg 3 [.o 0 (.lt (some 16) (.build [.a (.string ⟨#[]⟩), .a (.int .i64 0), .a (.int .i64 0)] [(0, 1, (.const (.string { data := #[120] }))), (1, 1, (.const (.int .i64 0))), (2, 1, (.const (.int .i64 3)))])), .o 1 (.lt (some 17) (.build [.a (.string ⟨#[]⟩), .a (.int .i64 0), .a (.int .i64 0)] [(0, 1, (.const (.string { data := #[121] }))), (1, 1, (.const (.int .i64 (-1)))), (2, 1, (.const (.int .i64 2)))])), .o 2 (.bsv (some 18) 3 2 [.a (.string ⟨#[]⟩), .a (.int .i64 0), .a (.int .i64 0)] [(0, (.tmp 16)), (1, (.tmp 17))]), .o 3 (.bsv (some 19) 1 2 [.a (.int .i64 0)] [(0, (.const (.int .i64 1))), (1, (.const (.int .i64 1)))]), .o 4 (.lt (some 20) (.build [.a (.int .i64 0), .a (.int .i64 0), .a (.slice none 0 0), .a (.int .i64 0), .a (.int .i64 0), .a (.int .i64 0), .a (.int .i64 0), .a (.slice none 0 0), .a (.slice none 0 0), .a (.slice none 0 0)] [(0, 1, (.const (.int .i64 3))), (7, 1, (.tmp 19))])), .o 5 (.bsv (some 21) 10 1 [.a (.int .i64 0), .a (.int .i64 0), .a (.slice none 0 0), .a (.int .i64 0), .a (.int .i64 0), .a (.int .i64 0), .a (.int .i64 0), .a (.slice none 0 0), .a (.slice none 0 0), .a (.slice none 0 0)] [(0, (.tmp 20))]), .o 6 (.lt (some 22) (.build [.a (.slice none 0 0), .a (.slice none 0 0), .a (.bool false), .a (.slice none 0 0)] [(0, 1, (.tmp 18)), (1, 1, (.tmp 21))])), .o 7 (.call (some 23) order_New.id [(.tmp 22)]), zm 8 15 23, ze 9 24 15 0, ze 10 25 15 1, zm 11 1 24, zm 12 2 25, .g (.keep [1, 2])]) (.seq (.seq (.reg 0 [zm 0 26 1, zz 1 27 0 false 26, zm 2 28 27, ym 3 28 false 29 2, yd 4 28 false 30 .neq 29 0, zp 5 31 28 true 30, zm 6 32 31, ym 7 32 false 33 1, .gd 8 32 false (some 34) (.call (some 34) order_Order_Count.id [(.tmp 33)]), yd 9 32 false 35 .neq 34 10, zp 10 36 32 true 35, .g (.keep [1, 36])]) (.cond (.tmp 36) (.seq (.reg 0 [zb 0 0 false, .g (.keep [0])]) (.ret)) (.skip))) (.seq (.reg 0 [zm 0 38 1, .o 1 (.call (some 39) order_Order_AtLeast.id [(.tmp 38), (.const (.int .i64 0)), (.const (.int .i64 1))]), zm 2 37 39, ze 3 40 37 0, ze 4 41 37 1, zm 5 3 40, zm 6 4 41, .g (.keep [1, 3, 4])]) (.seq (.reg 0 [zm 0 43 1, .o 1 (.call (some 44) order_Order_AtLeast.id [(.tmp 43), (.const (.int .i64 0)), (.const (.int .i64 0))]), zm 2 42 44, ze 3 45 42 0, ze 4 46 42 1, zm 5 5 45, zm 6 6 46, .g (.keep [1, 3, 4, 5, 6])]) (.seq (.reg 0 [zm 0 48 1, .o 1 (.call (some 49) order_Order_Is.id [(.tmp 48), (.const (.int .i64 1)), (.const (.int .i64 (-1)))]), zm 2 47 49, ze 3 50 47 0, ze 4 51 47 1, zm 5 7 50, zm 6 8 51, .g (.keep [1, 3, 4, 5, 6, 7, 8])]) (.seq (.reg 1 [zm 0 53 1, .o 1 (.call (some 54) order_Order_Of.id [(.tmp 53), (.const (.int .i64 7))]), zm 2 52 54, ze 3 55 52 0, ze 4 56 52 1, .o 5 (.alloc (some 9) 0 6 [.a (.int .i64 0), .a (.int .i64 0), .a (.bool false), .a (.int .i64 0), .a (.int .i64 0), .a (.bool false)]), .o 6 (.store [] 6 (.tmp 9) (.tmp 55)), zm 7 10 56, .g (.keep [1, 3, 4, 5, 6, 7, 8, 9, 10])]) (.seq (.reg 1 [zm 0 58 1, .o 1 (.bsv (some 59) 1 2 [.a (.int .i64 0)] [(0, (.const (.int .i64 2))), (1, (.const (.int .i64 (-1))))]), .o 2 (.call (some 60) order_Order_Assignment.id [(.tmp 58), (.tmp 59)]), zm 3 57 60, ze 4 61 57 0, ze 5 62 57 1, zm 6 11 61, zm 7 12 62, .g (.keep [1, 3, 4, 5, 6, 7, 8, 9, 10, 11, 12])]) (.seq (.reg 0 [zm 0 64 1, zm 1 65 11, .o 2 (.call (some 66) order_Order_Values.id [(.tmp 64), (.tmp 65)]), zm 3 63 66, ze 4 67 63 0, ze 5 68 63 1, zm 6 13 67, zm 7 14 68, .g (.keep [3, 4, 5, 6, 7, 8, 9, 10, 11, 12, 13, 14])]) (.seq (.reg 1 [zm 0 69 3, zd 1 70 .eql 69 1, zm 2 71 70, ym 3 71 true 72 4, yd 4 71 true 73 .eql 72 1, zr 5 74 71 73 false, zm 6 75 74, ym 7 75 true 76 5, yd 8 75 true 77 .eql 76 0, zr 9 78 75 77 false, zm 10 79 78, ym 11 79 true 80 6, yd 12 79 true 81 .eql 80 2, zr 13 82 79 81 false, zm 14 83 82, ym 15 83 true 84 7, yd 16 83 true 85 .eql 84 7, zr 17 86 83 85 false, zm 18 87 86, ym 19 87 true 88 8, yd 20 87 true 89 .eql 88 1, zr 21 90 87 89 false, zm 22 91 90, yL 23 91 true 92 6 9, .gd 24 91 true (some 93) (.lt (some 93) (.build [.a (.int .i64 0), .a (.int .i64 0), .a (.bool false), .a (.int .i64 0), .a (.int .i64 0), .a (.bool false)] [(0, 1, (.const (.int .i64 1))), (1, 1, (.const (.int .i64 (-1)))), (2, 1, (.const (.bool true)))])), .gd 25 91 true (some 94) (.lt (some 94) (.eqD false [(0, 0), (1, 0), (2, 2), (3, 0), (4, 0), (5, 2)] (.tmp 92) (.tmp 93))), zr 26 95 91 94 false, zm 27 96 95, ym 28 96 true 97 10, zr 29 98 96 97 false, zm 30 99 98, ym 31 99 true 100 12, zr 32 101 99 100 false, zm 33 102 101, ym 34 102 true 103 11, yn 35 102 true 104 103, yd 36 102 true 105 .eql 104 10, zr 37 106 102 105 false, zm 38 107 106, ym 39 107 true 108 11, .gd 40 107 true (some 109) (.lt (some 109) (.ixS 1 (.tmp 108) (.const (.int .i64 0)))), yl 41 107 true 110 1 109, zr 42 111 107 110 false, zm 43 112 111, ym 44 112 true 113 11, .gd 45 112 true (some 114) (.lt (some 114) (.ixS 1 (.tmp 113) (.const (.int .i64 1)))), yl 46 112 true 115 1 114, zr 47 116 112 115 false, zm 48 117 116, ym 49 117 true 118 11, .gd 50 117 true (some 119) (.lt (some 119) (.ixS 1 (.tmp 118) (.const (.int .i64 2)))), yl 51 117 true 120 1 119, yq 52 117 true 121 120, zr 53 122 117 121 false, zm 54 123 122, ym 55 123 true 124 11, .gd 56 123 true (some 125) (.lt (some 125) (.ixS 1 (.tmp 124) (.const (.int .i64 6)))), yl 57 123 true 126 1 125, zr 58 127 123 126 false, zm 59 128 127, ym 60 128 true 129 14, zr 61 130 128 129 false, zm 62 131 130, ym 63 131 true 132 13, .gd 64 131 true (some 133) (.bsv (some 133) 1 2 [.a (.int .i64 0)] [(0, (.const (.int .i64 2))), (1, (.const (.int .i64 (-1))))]), .gd 65 131 true (some 134) (.call (some 134) hallmarklaw6_sameInts.id [(.tmp 132), (.tmp 133)]), zr 66 135 131 134 false, zm 67 0 135, .g (.keep [0])]) (.ret))))))))))
def hallmarklaw6_known.rs : List Rs := [.sl 0]
theorem hallmarklaw6_known.ok : isFn Try.prog hallmarklaw6_known.id 136 hallmarklaw6_known.ann hallmarklaw6_known.ir hallmarklaw6_known.rs := ⟨Try.f8, _, Try.func8, rfl, rfl, by kernel_rfl, by kernel_rfl⟩
-- hallmark/order.New
def order_New.ann : List (Nat × RA) := [(0, rk [1]), (1, rk [1, 5]), (2, rk [1, 5, 21]), (3, rk [2, 3]), (4, rk [1, 6]), (5, { gs := [(0, [.wk, .wk])], keep := some [1, 6, 26, 27, 28] }), (6, rk [1, 6, 26, 27, 28, 29]), (7, rk [1, 6, 8, 26, 27, 28]), (8, rk [1, 6, 8, 9, 26, 27, 28]), (9, rk [1, 6, 8, 9, 26, 27, 28, 41]), (10, rk [1, 6, 8, 9, 26, 27, 28]), (11, ro [1, 6, 9, 26, 27, 28] [0, 1, 2, 3, 4, 5, 6, 7, 8, 9, 10, 11, 12]), (12, rq [1, 6, 26, 27, 28] [0, 1, 2, 3, 4, 5, 6, 7, 8, 9, 10] [(6, [1000004])]), (13, rk [1, 6, 26, 27, 28]), (14, rk [1, 6, 75, 76]), (15, rk [1, 6, 75, 76, 77]), (16, rk [1, 6, 10, 75, 76]), (17, rp [1, 6, 10, 75, 76, 82] [(3, [1000001])]), (18, ro [1, 6, 11, 75, 76] [0, 1, 2, 3, 4, 5, 6]), (19, ro [1, 6, 11, 75, 76] [0, 1, 2, 3, 4, 5, 6, 7, 8]), (20, ro [1, 6, 75, 76] [0, 1, 2, 3, 4, 5, 6, 7, 8, 9, 10, 11, 12, 13, 14, 15, 16, 17]), (21, rk [1, 6, 75, 76]), (22, rk [6, 116, 117, 118]), (23, rk [6, 116, 117, 118, 119]), (24, rk [6, 13, 116, 117, 118]), (25, rk [6, 13, 14, 116, 117, 118]), (26, { gs := [(0, [.wk, .wk])], keep := some [6, 13, 14, 116, 117, 118, 125] }), (27, ro [6, 13, 14, 116, 117, 118] [0, 1, 2, 3, 4, 5, 7, 8, 6, 9, 10, 11]), (28, ro [6, 14, 116, 117, 118] [0, 1, 2, 3, 4, 5, 6, 7, 8, 9, 10]), (29, rq [6, 116, 117, 118] [0, 1, 2, 3, 4, 5, 6, 7, 8, 9, 10] [(6, [1000004])]), (30, rk [6, 116, 117, 118]), (31, { gs := [(0, [.wk, .wk])], keep := some [2, 3] })]
def order_New.b2 : C := .seq (.reg 0 [za 0 119 .lss 118 117, .g (.keep [6, 116, 117, 118, 119])]) (.seq (.cond (.tmp 119) (.skip) (.exit 4)) (.seq (.block 5 (.seq (.reg 1 [zx 0 120 10 116 118, zL 1 121 10 120, .o 2 (.alloc (some 13) 0 10 [.a (.int .i64 0), .a (.int .i64 0), .a (.slice none 0 0), .a (.int .i64 0), .a (.int .i64 0), .a (.int .i64 0), .a (.int .i64 0), .a (.slice none 0 0), .a (.slice none 0 0), .a (.slice none 0 0)]), .o 3 (.store [] 10 (.tmp 13) (.tmp 121)), .g (.keep [6, 13, 116, 117, 118])]) (.seq (.reg 1 [.o 0 (.lt (some 122) (.build [.a (.int .i64 0), .a (.slice none 0 0), .a (.slice none 0 0)] [(0, 1, (.const (.int .i64 (-1))))])), .o 1 (.alloc (some 14) 0 3 [.a (.int .i64 0), .a (.slice none 0 0), .a (.slice none 0 0)]), .o 2 (.store [] 3 (.tmp 14) (.tmp 122)), .g (.keep [6, 13, 14, 116, 117, 118])]) (.seq (.seq (.reg 0 [.g (.wk), .g (.wk), zf 0 123 13 0, zl 1 124 1 123, zd 2 125 .eql 124 8, .g (.keep [6, 13, 14, 116, 117, 118, 125])]) (.cond (.tmp 125) (.seq (.reg 0 [zm 0 126 6, zc 1 127 126, zf 2 128 127 2, zl 3 129 1 128, zf 4 130 13 7, zl 5 131 1 130, zf 7 133 13 9, zl 8 134 1 133, .o 6 (.call (some 132) slices_Clone_Lint_int.id [(.tmp 131)]), .o 9 (.call (some 135) order_rows.id [(.tmp 134)]), .o 10 (.lt (some 136) (.build [.a (.int .i64 0), .a (.slice none 0 0), .a (.slice none 0 0)] [(0, 1, (.tmp 129)), (1, 1, (.tmp 132)), (2, 1, (.tmp 135))])), .o 11 (.store [] 3 (.tmp 14) (.tmp 136)), .g (.keep [6, 13, 14, 116, 117, 118])]) (.reg 0 [zm 0 137 6, zc 1 138 137, zf 2 139 138 2, zl 3 140 1 139, zf 4 141 13 9, zl 5 142 1 141, zn 6 143 142, za 7 144 .add 140 143, zc 8 145 137, zf 9 146 145 2, .o 10 (.store [] 1 (.tmp 146) (.tmp 144)), .g (.keep [6, 14, 116, 117, 118])])) (.skip))) (.reg 2 [zm 0 147 6, zm 1 148 6, zc 2 149 148, zf 3 150 149 1, zl 4 151 1 150, zL 5 152 3 14, .o 6 (.bsv (some 153) 3 1 [.a (.int .i64 0), .a (.slice none 0 0), .a (.slice none 0 0)] [(0, (.tmp 152))]), .o 7 (.app [] (some 154) 1 3 56 (.tmp 151) (.tmp 153)), zc 8 155 147, zf 9 156 155 1, .o 10 (.store [] 1 (.tmp 156) (.tmp 154)), .g (.keep [6, 116, 117, 118])]))))) (.reg 0 [zd 0 157 .add 118 1, zm 1 118 157, .g (.keep [6, 116, 117, 118])])))
def order_New.b1 : C := .seq (.reg 0 [za 0 77 .lss 76 75, .g (.keep [1, 6, 75, 76, 77])]) (.seq (.cond (.tmp 77) (.skip) (.exit 2)) (.seq (.block 3 (.seq (.reg 1 [zm 0 78 76, .o 1 (.alloc (some 10) 0 1 [.a (.int .i64 0)]), .o 2 (.store [] 1 (.tmp 10) (.tmp 78)), .g (.keep [1, 6, 10, 75, 76])]) (.seq (.reg 0 [zf 0 79 1 1, zl 1 80 1 79, .o 2 (.lt (some 81) (.mkfn (.func order_New_1.id) [] [(.tmp 10)])), .o 3 (.callb (some 82) (.func slices_ContainsFunc_Lapi_Con_api_Con.id) [(.tmp 80), (.tmp 81)]), .g (.keep [1, 6, 10, 75, 76, 82])]) (.cond (.tmp 82) (.seq (.reg 0 [zm 0 83 6, zc 1 84 83, zf 2 85 84 0, zl 3 86 1 85, zl 4 87 1 10, zx 5 88 4 86 87, zm 6 11 88, .g (.keep [1, 6, 11, 75, 76])]) (.seq (.reg 0 [zm 0 89 11, zm 1 90 6, zc 2 91 90, zf 3 92 91 2, zl 4 93 1 92, zd 5 94 .add 93 1, zc 6 95 89, .o 7 (.lt (some 96) (.ixA 4 1 (.tmp 95) (.const (.int .i64 3)))), .o 8 (.store [] 1 (.tmp 96) (.tmp 94)), .g (.keep [1, 6, 11, 75, 76])]) (.reg 0 [zm 0 97 6, zc 1 98 97, zf 2 99 98 2, zl 3 100 1 99, zm 4 101 11, zc 5 102 101, .o 6 (.lt (some 103) (.ixA 4 1 (.tmp 102) (.const (.int .i64 1)))), zl 7 104 1 103, zm 8 105 11, zc 9 106 105, .o 10 (.lt (some 107) (.ixA 4 1 (.tmp 106) (.const (.int .i64 0)))), zl 11 108 1 107, za 12 109 .sub 104 108, zd 13 110 .add 109 1, za 14 111 .add 100 110, zc 15 112 97, zf 16 113 112 2, .o 17 (.store [] 1 (.tmp 113) (.tmp 111)), .g (.keep [1, 6, 75, 76])]))) (.skip))))) (.reg 0 [zd 0 114 .add 76 1, zm 1 76 114, .g (.keep [1, 6, 75, 76])])))
def order_New.b0 : C := .seq (.reg 0 [za 0 29 .lss 28 27, .g (.keep [1, 6, 26, 27, 28, 29])]) (.seq (.cond (.tmp 29) (.skip) (.exit 0)) (.seq (.block 1 (.seq (.reg 1 [zx 0 30 3 26 28, zL 1 31 3 30, .o 2 (.alloc (some 8) 0 3 [.a (.string ⟨#[]⟩), .a (.int .i64 0), .a (.int .i64 0)]), .o 3 (.store [] 3 (.tmp 8) (.tmp 31)), .g (.keep [1, 6, 8, 26, 27, 28])]) (.seq (.reg 1 [zf 0 32 8 1, zl 1 33 1 32, zf 2 34 8 2, zl 3 35 1 34, .o 4 (.lt (some 36) (.build [.a (.int .i64 0), .a (.int .i64 0), .a (.int .i64 0), .a (.int .i64 0)] [(0, 1, (.tmp 33)), (1, 1, (.tmp 35)), (2, 1, (.const (.int .i64 0))), (3, 1, (.const (.int .i64 0)))])), .o 5 (.alloc (some 9) 0 4 [.a (.int .i64 0), .a (.int .i64 0), .a (.int .i64 0), .a (.int .i64 0)]), .o 6 (.store [] 4 (.tmp 9) (.tmp 36)), .g (.keep [1, 6, 8, 9, 26, 27, 28])]) (.seq (.seq (.reg 0 [zf 0 37 8 2, zl 1 38 1 37, zf 2 39 8 1, zl 3 40 1 39, za 4 41 .gtr 38 40, .g (.keep [1, 6, 8, 9, 26, 27, 28, 41])]) (.cond (.tmp 41) (.seq (.reg 0 [zm 0 42 6, zc 1 43 42, zf 2 44 43 2, zl 3 45 1 44, zd 4 46 .add 45 1, .o 5 (.lt (some 47) (.ixA 4 1 (.tmp 9) (.const (.int .i64 2)))), .o 6 (.store [] 1 (.tmp 47) (.tmp 46)), .g (.keep [1, 6, 8, 9, 26, 27, 28])]) (.reg 0 [zm 0 48 6, zc 1 49 48, zf 2 50 49 2, zl 3 51 1 50, zf 4 52 8 2, zl 5 53 1 52, zf 6 54 8 1, zl 7 55 1 54, za 8 56 .sub 53 55, za 9 57 .add 51 56, zc 10 58 48, zf 11 59 58 2, .o 12 (.store [] 1 (.tmp 59) (.tmp 57)), .g (.keep [1, 6, 9, 26, 27, 28])])) (.skip))) (.reg 2 [zm 0 60 6, zm 1 61 6, zc 2 62 61, zf 3 63 62 0, zl 4 64 1 63, zL 5 65 4 9, .o 6 (.bsv (some 66) 4 1 [.a (.int .i64 0), .a (.int .i64 0), .a (.int .i64 0), .a (.int .i64 0)] [(0, (.tmp 65))]), .o 7 (.app [] (some 67) 1 4 32 (.tmp 64) (.tmp 66)), zc 8 68 60, zf 9 69 68 0, .o 10 (.store [] 1 (.tmp 69) (.tmp 67)), .g (.keep [1, 6, 26, 27, 28])]))))) (.reg 0 [zd 0 70 .add 28 1, zm 1 28 70, .g (.keep [1, 6, 26, 27, 28])])))
def order_New.ir : C := .seq (.reg 1 [.o 0 (.box (some 1) 0 4 (.tmp 0)), .o 1 (.lt (some 2) (.mov (.const (.pointer none)))), zk 2 3 0, .g (.keep [1])]) (.seq (.seq (.reg 0 [zL 0 16 4 1, .o 1 (.call (some 17) model_Check.id [(.tmp 16)]), zm 2 15 17, ze 3 18 15 0, ze 4 19 15 1, zm 5 4 18, zm 6 5 19, .g (.keep [1, 5])]) (.seq (.reg 0 [zm 0 20 5, zd 1 21 .neq 20 0, .g (.keep [1, 5, 21])]) (.cond (.tmp 21) (.seq (.reg 0 [zm 0 22 5, .o 1 (.lt (some 2) (.mov (.const (.pointer none)))), zm 2 3 22, .g (.keep [2, 3])]) (.ret)) (.skip)))) (.seq (.reg 1 [.o 0 (.lt (some 23) (.build [.a (.slice none 0 0), .a (.slice none 0 0), .a (.int .i64 0)] [])), .o 1 (.box (some 24) 0 3 (.tmp 23)), zm 2 6 24, .g (.keep [1, 6])]) (.seq (.seq (.reg 0 [.g (.wk), .g (.wk), zf 0 25 1 0, zl 1 26 1 25, zn 2 27 26, zk 3 28 0, .g (.keep [1, 6, 26, 27, 28])]) (.block 0 (.loop order_New.b0))) (.seq (.seq (.reg 0 [zm 0 71 6, zc 1 72 71, zf 2 73 72 0, zl 3 74 1 73, zn 4 75 74, zk 5 76 0, .g (.keep [1, 6, 75, 76])]) (.block 2 (.loop order_New.b1))) (.seq (.seq (.reg 0 [zf 0 115 1 1, zl 1 116 1 115, zn 2 117 116, zk 3 118 0, .g (.keep [6, 116, 117, 118])]) (.block 4 (.loop order_New.b2))) (.seq (.reg 0 [.g (.wk), .g (.wk), zm 0 158 6, zm 1 2 158, zk 2 3 0, .g (.keep [2, 3])]) (.ret)))))))
def order_New.rs : List Rs := [.sl 2, .sl 3]
theorem order_New.ok : isFn Try.prog order_New.id 159 order_New.ann order_New.ir order_New.rs := ⟨Try.f9, _, Try.func9, rfl, rfl, by kernel_rfl, by kernel_rfl⟩
-- (*hallmark/order.Order).AtLeast
def order_Order_AtLeast.ann : List (Nat × RA) := [(0, rk [0, 1, 2]), (1, rk [0, 1, 2, 8]), (2, rk [2, 8, 12]), (3, rk [6, 7]), (4, rk [2, 8, 17]), (5, rk [6, 7]), (6, rk [2, 8, 22]), (7, rk [6, 7]), (8, rk [6, 7])]
def order_Order_AtLeast.ir : C := .seq (.reg 0 [zk 0 6 0, zk 1 7 0, .g (.keep [0, 1, 2])]) (.seq (.reg 1 [zm 0 9 0, zm 1 10 1, .o 2 (.call (some 11) order_Order_at.id [(.tmp 9), (.tmp 10)]), .o 3 (.alloc (some 8) 0 4 [.a (.int .i64 0), .a (.int .i64 0), .a (.int .i64 0), .a (.int .i64 0)]), .o 4 (.store [] 4 (.tmp 8) (.tmp 11)), .g (.keep [0, 1, 2, 8])]) (.seq (.block 0 (.seq (.reg 0 [zm 0 13 0, zm 1 14 1, .o 2 (.call (some 15) order_Order_is.id [(.tmp 13), (.tmp 14)]), zq 3 16 15, zm 4 12 16, .g (.keep [2, 8, 12])]) (.cond (.tmp 12) (.seq (.reg 0 [zk 0 6 0, zk 1 7 0, .g (.keep [6, 7])]) (.ret)) (.seq (.reg 0 [zm 0 18 2, .o 1 (.lt (some 19) (.ixA 4 1 (.tmp 8) (.const (.int .i64 0)))), zl 2 20 1 19, za 3 21 .leq 18 20, zm 4 17 21, .g (.keep [2, 8, 17])]) (.cond (.tmp 17) (.seq (.reg 0 [zk 0 6 0, zk 1 7 2, .g (.keep [6, 7])]) (.ret)) (.seq (.reg 0 [zm 0 23 2, .o 1 (.lt (some 24) (.ixA 4 1 (.tmp 8) (.const (.int .i64 1)))), zl 2 25 1 24, za 3 26 .gtr 23 25, zm 4 22 26, .g (.keep [2, 8, 22])]) (.cond (.tmp 22) (.seq (.reg 0 [zk 0 6 0, zk 1 7 3, .g (.keep [6, 7])]) (.ret)) (.skip)))))))) (.seq (.reg 0 [zL 0 27 4 8, .o 1 (.call (some 28) order_place_steps.id [(.tmp 27)]), .o 2 (.lt (some 29) (.fld true 3 0 (.tmp 28))), zm 3 30 2, .o 4 (.call (some 31) order_span_number.id [(.tmp 29), (.tmp 30)]), zm 5 6 31, zk 6 7 1, .g (.keep [6, 7])]) (.ret))))
def order_Order_AtLeast.rs : List Rs := [.sl 6, .sl 7]
theorem order_Order_AtLeast.ok : isFn Try.prog order_Order_AtLeast.id 32 order_Order_AtLeast.ann order_Order_AtLeast.ir order_Order_AtLeast.rs := ⟨Try.f10, _, Try.func10, rfl, rfl, by kernel_rfl, by kernel_rfl⟩
-- (*hallmark/order.Order).Of
def order_Order_Of.ann : List (Nat × RA) := [(0, rk [0, 1, 4]), (1, rk [0, 1, 4, 18, 19, 20]), (2, rk [0, 1, 4, 18, 19, 20, 21]), (3, rk [0, 1, 4, 6, 7, 18, 19, 20]), (4, rk [0, 1, 4, 6, 7, 8, 9, 18, 19, 20]), (5, rk [0, 1, 4, 6, 7, 8, 18, 19, 20, 40]), (6, rk [4, 5]), (7, rk [0, 1, 4, 6, 10, 11, 18, 19, 20]), (8, rk [0, 1, 4, 6, 10, 18, 19, 20, 52]), (9, rk [4, 5]), (10, rk [0, 1, 4, 18, 19, 20]), (11, rk [1, 4, 60, 61, 62]), (12, rk [1, 4, 60, 61, 62, 63]), (13, rk [1, 4, 12, 13, 60, 61, 62]), (14, rk [1, 4, 12, 13, 14, 60, 61, 62]), (15, rk [1, 4, 12, 14, 60, 61, 62, 85]), (16, rk [4, 5]), (17, rk [1, 4, 60, 61, 62]), (18, rk [4, 5])]
def order_Order_Of.b1 : C := .seq (.reg 0 [za 0 63 .lss 62 61, .g (.keep [1, 4, 60, 61, 62, 63])]) (.seq (.cond (.tmp 63) (.skip) (.exit 2)) (.seq (.block 3 (.seq (.reg 1 [zm 0 64 62, zx 1 65 3 60 62, zL 2 66 3 65, .o 3 (.alloc (some 13) 0 3 [.a (.int .i64 0), .a (.slice none 0 0), .a (.slice none 0 0)]), zm 4 12 64, .o 5 (.store [] 3 (.tmp 13) (.tmp 66)), .g (.keep [1, 4, 12, 13, 60, 61, 62])]) (.seq (.reg 0 [zm 0 67 1, zf 1 68 13 0, zl 2 69 1 68, za 3 70 .sub 67 69, zd 4 71 .sub 70 1, zm 5 14 71, .g (.keep [1, 4, 12, 13, 14, 60, 61, 62])]) (.seq (.reg 0 [zf 0 72 13 0, zl 1 73 1 72, zd 2 74 .neq 73 (-1), zm 3 75 74, ym 4 75 true 76 14, yd 5 75 true 77 .geq 76 0, zr 6 78 75 77 false, zm 7 79 78, ym 8 79 true 80 14, yf 9 79 true 81 13 2, yl 10 79 true 82 1 81, yn 11 79 true 83 82, ya 12 79 true 84 .lss 80 83, zr 13 85 79 84 false, .g (.keep [1, 4, 12, 14, 60, 61, 62, 85])]) (.cond (.tmp 85) (.seq (.reg 0 [zm 0 86 12, zm 1 87 14, .o 2 (.lt (some 88) (.build [.a (.int .i64 0), .a (.int .i64 0), .a (.bool false), .a (.int .i64 0), .a (.int .i64 0), .a (.bool false)] [(3, 1, (.tmp 86)), (4, 1, (.tmp 87)), (5, 1, (.const (.bool true)))])), .o 3 (.store [] 6 (.tmp 4) (.tmp 88)), zb 4 5 true, .g (.keep [4, 5])]) (.ret)) (.skip)))))) (.reg 0 [zd 0 89 .add 62 1, zm 1 62 89, .g (.keep [1, 4, 60, 61, 62])])))
def order_Order_Of.b0 : C := .seq (.reg 0 [za 0 21 .lss 20 19, .g (.keep [0, 1, 4, 18, 19, 20, 21])]) (.seq (.cond (.tmp 21) (.skip) (.exit 0)) (.seq (.block 1 (.seq (.reg 1 [zm 0 22 20, zx 1 23 4 18 20, zL 2 24 4 23, .o 3 (.alloc (some 7) 0 4 [.a (.int .i64 0), .a (.int .i64 0), .a (.int .i64 0), .a (.int .i64 0)]), zm 4 6 22, .o 5 (.store [] 4 (.tmp 7) (.tmp 24)), .g (.keep [0, 1, 4, 6, 7, 18, 19, 20])]) (.seq (.seq (.reg 0 [zL 0 26 4 7, .o 1 (.call (some 27) order_place_steps.id [(.tmp 26)]), .o 2 (.lt (some 28) (.fld true 3 0 (.tmp 27))), zm 3 29 1, .o 4 (.call (some 30) order_span_value.id [(.tmp 28), (.tmp 29)]), zm 5 25 30, ze 6 31 25 0, ze 7 32 25 1, zm 8 8 31, zm 9 9 32, .g (.keep [0, 1, 4, 6, 7, 8, 9, 18, 19, 20])]) (.seq (.reg 0 [zm 0 33 9, zm 1 34 33, .gd 2 34 true (some 35) (.lt (some 35) (.ixA 4 1 (.tmp 7) (.const (.int .i64 1)))), yl 3 34 true 36 1 35, .gd 4 34 true (some 37) (.lt (some 37) (.ixA 4 1 (.tmp 7) (.const (.int .i64 0)))), yl 5 34 true 38 1 37, ya 6 34 true 39 .gtr 36 38, zr 7 40 34 39 false, .g (.keep [0, 1, 4, 6, 7, 8, 18, 19, 20, 40])]) (.cond (.tmp 40) (.seq (.reg 0 [zm 0 41 6, zm 1 42 8, .o 2 (.lt (some 43) (.build [.a (.int .i64 0), .a (.int .i64 0), .a (.bool false), .a (.int .i64 0), .a (.int .i64 0), .a (.bool false)] [(0, 1, (.tmp 41)), (1, 1, (.tmp 42))])), .o 3 (.store [] 6 (.tmp 4) (.tmp 43)), zb 4 5 true, .g (.keep [4, 5])]) (.ret)) (.skip)))) (.seq (.reg 0 [zL 0 45 4 7, .o 1 (.call (some 46) order_place_kinds.id [(.tmp 45)]), .o 2 (.lt (some 47) (.fld true 3 0 (.tmp 46))), zm 3 48 1, .o 4 (.call (some 49) order_span_value.id [(.tmp 47), (.tmp 48)]), zm 5 44 49, ze 6 50 44 0, ze 7 51 44 1, zm 8 10 50, zm 9 11 51, .g (.keep [0, 1, 4, 6, 10, 11, 18, 19, 20])]) (.seq (.reg 0 [zm 0 52 11, .g (.keep [0, 1, 4, 6, 10, 18, 19, 20, 52])]) (.cond (.tmp 52) (.seq (.reg 0 [zm 0 53 6, zm 1 54 10, .o 2 (.lt (some 55) (.build [.a (.int .i64 0), .a (.int .i64 0), .a (.bool false), .a (.int .i64 0), .a (.int .i64 0), .a (.bool false)] [(0, 1, (.tmp 53)), (1, 1, (.tmp 54)), (2, 1, (.const (.bool true)))])), .o 3 (.store [] 6 (.tmp 4) (.tmp 55)), zb 4 5 true, .g (.keep [4, 5])]) (.ret)) (.skip))))))) (.reg 0 [zd 0 56 .add 20 1, zm 1 20 56, .g (.keep [0, 1, 4, 18, 19, 20])])))
def order_Order_Of.ir : C := .seq (.reg 1 [.o 0 (.alloc (some 4) 0 6 [.a (.int .i64 0), .a (.int .i64 0), .a (.bool false), .a (.int .i64 0), .a (.int .i64 0), .a (.bool false)]), zb 1 5 false, .g (.keep [0, 1, 4])]) (.seq (.seq (.reg 0 [zm 0 15 0, zc 1 16 15, zf 2 17 16 0, zl 3 18 1 17, zn 4 19 18, zk 5 20 0, .g (.keep [0, 1, 4, 18, 19, 20])]) (.block 0 (.loop order_Order_Of.b0))) (.seq (.seq (.reg 0 [zm 0 57 0, zc 1 58 57, zf 2 59 58 1, zl 3 60 1 59, zn 4 61 60, zk 5 62 0, .g (.keep [1, 4, 60, 61, 62])]) (.block 2 (.loop order_Order_Of.b1))) (.seq (.reg 0 [.o 0 (.lt (some 90) (.build [.a (.int .i64 0), .a (.int .i64 0), .a (.bool false), .a (.int .i64 0), .a (.int .i64 0), .a (.bool false)] [])), .o 1 (.store [] 6 (.tmp 4) (.tmp 90)), zb 2 5 false, .g (.keep [4, 5])]) (.ret))))
def order_Order_Of.rs : List Rs := [.ce 4 true 6, .sl 5]
theorem order_Order_Of.ok : isFn Try.prog order_Order_Of.id 91 order_Order_Of.ann order_Order_Of.ir order_Order_Of.rs := ⟨Try.f11, _, Try.func11, rfl, rfl, by kernel_rfl, by kernel_rfl⟩
-- hallmark/hallmarklaw6.place
def hallmarklaw6_place.ann : List (Nat × RA) := [(0, rk [0, 1]), (1, rk [0, 1]), (2, rk [0, 1, 9]), (3, rk [0]), (4, rk [4])]
def hallmarklaw6_place.ir : C := .seq (.reg 0 [zk 0 4 0, .g (.keep [0, 1])]) (.seq (.reg 0 [zm 0 5 0, zm 1 6 1, za 2 7 .rem 5 6, zm 3 0 7, .g (.keep [0, 1])]) (.seq (.seq (.reg 0 [zm 0 8 0, zd 1 9 .lss 8 0, .g (.keep [0, 1, 9])]) (.cond (.tmp 9) (.reg 0 [zm 0 10 0, zm 1 11 1, za 2 12 .add 10 11, zm 3 0 12, .g (.keep [0])]) (.skip))) (.seq (.reg 0 [zm 0 13 0, zm 1 4 13, .g (.keep [4])]) (.ret))))
def hallmarklaw6_place.rs : List Rs := [.sl 4]
theorem hallmarklaw6_place.ok : isFn Try.prog hallmarklaw6_place.id 14 hallmarklaw6_place.ann hallmarklaw6_place.ir hallmarklaw6_place.rs := ⟨Try.f12, _, Try.func12, rfl, rfl, by kernel_rfl, by kernel_rfl⟩
-- (*hallmark/order.Order).Is
def order_Order_Is.ann : List (Nat × RA) := [(0, rk [0, 1, 2]), (1, rk [2, 8]), (2, rk [2, 8, 21]), (3, rk [6, 7]), (4, rk [9]), (5, rk [9, 28]), (6, rk [6, 7]), (7, rk [6, 7])]
def order_Order_Is.ir : C := .seq (.reg 0 [zk 0 6 0, zk 1 7 0, .g (.keep [0, 1, 2])]) (.seq (.reg 1 [zm 0 10 0, zm 1 11 1, .o 2 (.call (some 12) order_Order_at.id [(.tmp 10), (.tmp 11)]), .o 3 (.alloc (some 8) 0 4 [.a (.int .i64 0), .a (.int .i64 0), .a (.int .i64 0), .a (.int .i64 0)]), .o 4 (.store [] 4 (.tmp 8) (.tmp 12)), .g (.keep [2, 8])]) (.seq (.seq (.reg 0 [zL 0 13 4 8, .o 1 (.lt (some 14) (.ixA 4 1 (.tmp 8) (.const (.int .i64 0)))), zl 2 15 1 14, .o 3 (.lt (some 16) (.ixA 4 1 (.tmp 8) (.const (.int .i64 1)))), zl 4 17 1 16, .o 5 (.lt (some 18) (.ixA 4 1 (.tmp 8) (.const (.int .i64 2)))), zl 6 19 1 18, .o 7 (.lt (some 20) (.build [.a (.int .i64 0), .a (.int .i64 0), .a (.int .i64 0), .a (.int .i64 0)] [(0, 1, (.tmp 15)), (1, 1, (.tmp 17)), (2, 1, (.tmp 19)), (3, 1, (.const (.int .i64 0)))])), .o 8 (.lt (some 21) (.eqD false [(0, 0), (1, 0), (2, 0), (3, 0)] (.tmp 13) (.tmp 20))), .g (.keep [2, 8, 21])]) (.cond (.tmp 21) (.seq (.reg 0 [zk 0 6 0, zk 1 7 0, .g (.keep [6, 7])]) (.ret)) (.skip))) (.seq (.seq (.reg 0 [zL 0 22 4 8, .o 1 (.call (some 23) order_place_kinds.id [(.tmp 22)]), .o 2 (.lt (some 24) (.fld true 3 0 (.tmp 23))), zm 3 25 2, .o 4 (.call (some 26) order_span_number.id [(.tmp 24), (.tmp 25)]), zm 5 9 26, .g (.keep [9])]) (.seq (.reg 0 [zm 0 27 9, zd 1 28 .gtr 27 0, .g (.keep [9, 28])]) (.cond (.tmp 28) (.seq (.reg 0 [zm 0 29 9, zm 1 6 29, zk 2 7 1, .g (.keep [6, 7])]) (.ret)) (.skip)))) (.seq (.reg 0 [zk 0 6 0, zk 1 7 3, .g (.keep [6, 7])]) (.ret)))))
def order_Order_Is.rs : List Rs := [.sl 6, .sl 7]
theorem order_Order_Is.ok : isFn Try.prog order_Order_Is.id 30 order_Order_Is.ann order_Order_Is.ir order_Order_Is.rs := ⟨Try.f13, _, Try.func13, rfl, rfl, by kernel_rfl, by kernel_rfl⟩
-- (*hallmark/order.Order).Assignment
def order_Order_Assignment.ann : List (Nat × RA) := [(0, rk [0, 1]), (1, rk [0, 1, 22]), (2, rk [4, 5]), (3, rk [0, 1, 6]), (4, rk [0, 1, 6, 31, 32, 33]), (5, rk [0, 1, 6, 31, 32, 33, 34]), (6, rk [0, 1, 6, 7, 8, 31, 32, 33]), (7, rk [0, 1, 6, 8, 9, 31, 32, 33]), (8, rk [0, 1, 6, 8, 9, 31, 32, 33, 51]), (9, rk [4, 5]), (10, rk [0, 1, 6, 8, 9, 10, 31, 32, 33]), (11, rk [0, 1, 6, 8, 9, 10, 31, 32, 33, 57]), (12, rk [0, 1, 6, 8, 9, 10, 31, 32, 33]), (13, rk [0, 1, 6, 8, 9, 10, 31, 32, 33]), (14, rk [0, 1, 6, 11, 31, 32, 33]), (15, rk [0, 1, 6, 11, 31, 32, 33, 74]), (16, rk [0, 1, 6, 31, 32, 33]), (17, rk [0, 1, 6, 31, 32, 33]), (18, rk [1, 6, 83, 84, 85]), (19, rk [1, 6, 83, 84, 85, 86]), (20, rk [1, 6, 13, 83, 84, 85]), (21, rk [1, 6, 13, 83, 84, 85, 91, 92]), (22, rk [1, 6, 13, 83, 84, 85, 91, 92, 93]), (23, rk [1, 6, 13, 14, 83, 84, 85, 91, 92]), (24, ro [1, 6, 13, 83, 84, 85, 91, 92] [0, 1, 2, 3, 4, 5, 6, 7, 8, 9, 10]), (25, rk [1, 6, 13, 83, 84, 85, 91, 92]), (26, rk [1, 6, 83, 84, 85]), (27, { gs := [(0, [.frz 6])], keep := some [4, 5] })]
def order_Order_Assignment.b3 : C := .seq (.reg 0 [za 0 93 .lss 92 91, .g (.keep [1, 6, 13, 83, 84, 85, 91, 92, 93])]) (.seq (.cond (.tmp 93) (.skip) (.exit 6)) (.seq (.block 7 (.seq (.reg 0 [zm 0 94 92, zm 1 14 94, .g (.keep [1, 6, 13, 14, 83, 84, 85, 91, 92])]) (.reg 0 [zm 0 95 6, zf 1 96 13 0, zl 2 97 1 96, zm 3 98 14, za 4 99 .add 97 98, zL 5 100 3 13, zm 6 101 14, zm 7 102 1, .o 8 (.call (some 103) order_table_holds.id [(.tmp 100), (.tmp 101), (.tmp 102)]), zx 9 104 1 95 99, .o 10 (.store [] 1 (.tmp 104) (.tmp 103)), .g (.keep [1, 6, 13, 83, 84, 85, 91, 92])]))) (.reg 0 [zd 0 105 .add 92 1, zm 1 92 105, .g (.keep [1, 6, 13, 83, 84, 85, 91, 92])])))
def order_Order_Assignment.b2 : C := .seq (.reg 0 [za 0 86 .lss 85 84, .g (.keep [1, 6, 83, 84, 85, 86])]) (.seq (.cond (.tmp 86) (.skip) (.exit 4)) (.seq (.block 5 (.seq (.reg 1 [zx 0 87 3 83 85, zL 1 88 3 87, .o 2 (.alloc (some 13) 0 3 [.a (.int .i64 0), .a (.slice none 0 0), .a (.slice none 0 0)]), .o 3 (.store [] 3 (.tmp 13) (.tmp 88)), .g (.keep [1, 6, 13, 83, 84, 85])]) (.seq (.reg 0 [zf 0 89 13 2, zl 1 90 1 89, zn 2 91 90, zk 3 92 0, .g (.keep [1, 6, 13, 83, 84, 85, 91, 92])]) (.block 6 (.loop order_Order_Assignment.b3))))) (.reg 0 [zd 0 106 .add 85 1, zm 1 85 106, .g (.keep [1, 6, 83, 84, 85])])))
def order_Order_Assignment.b1 : C := .seq (.seq (.reg 0 [zm 0 55 10, zm 1 56 9, za 2 57 .leq 55 56, .g (.keep [0, 1, 6, 8, 9, 10, 31, 32, 33, 57])]) (.cond (.tmp 57) (.skip) (.exit 2))) (.seq (.block 3 (.reg 0 [zm 0 60 6, zL 1 61 4 8, .o 2 (.call (some 62) order_place_steps.id [(.tmp 61)]), .o 3 (.lt (some 63) (.fld true 3 0 (.tmp 62))), zm 4 64 10, .o 5 (.call (some 65) order_span_number.id [(.tmp 63), (.tmp 64)]), zd 6 66 .sub 65 1, zx 7 67 1 60 66, .o 8 (.store [] 1 (.tmp 67) (.const (.bool true))), .g (.keep [0, 1, 6, 8, 9, 10, 31, 32, 33])])) (.reg 0 [zm 0 58 10, zd 1 59 .add 58 1, zm 2 10 59, .g (.keep [0, 1, 6, 8, 9, 10, 31, 32, 33])]))
def order_Order_Assignment.b0 : C := .seq (.reg 0 [za 0 34 .lss 33 32, .g (.keep [0, 1, 6, 31, 32, 33, 34])]) (.seq (.cond (.tmp 34) (.skip) (.exit 0)) (.seq (.block 1 (.seq (.reg 1 [zm 0 35 33, zx 1 36 4 31 33, zL 2 37 4 36, .o 3 (.alloc (some 8) 0 4 [.a (.int .i64 0), .a (.int .i64 0), .a (.int .i64 0), .a (.int .i64 0)]), zm 4 7 35, .o 5 (.store [] 4 (.tmp 8) (.tmp 37)), .g (.keep [0, 1, 6, 7, 8, 31, 32, 33])]) (.seq (.reg 0 [zm 0 38 1, zm 1 39 7, zx 2 40 1 38 39, zl 3 41 1 40, zm 4 9 41, .g (.keep [0, 1, 6, 8, 9, 31, 32, 33])]) (.seq (.seq (.reg 0 [zm 0 42 9, .o 1 (.lt (some 43) (.ixA 4 1 (.tmp 8) (.const (.int .i64 0)))), zl 2 44 1 43, za 3 45 .lss 42 44, zm 4 46 45, ym 5 46 false 47 9, .gd 6 46 false (some 48) (.lt (some 48) (.ixA 4 1 (.tmp 8) (.const (.int .i64 1)))), yl 7 46 false 49 1 48, ya 8 46 false 50 .gtr 47 49, zp 9 51 46 true 50, .g (.keep [0, 1, 6, 8, 9, 31, 32, 33, 51])]) (.cond (.tmp 51) (.seq (.reg 0 [.o 0 (.lt (some 4) (.mov (.const (.slice none 0 0)))), zb 1 5 false, .g (.keep [4, 5])]) (.ret)) (.skip))) (.seq (.seq (.reg 0 [.o 0 (.lt (some 52) (.ixA 4 1 (.tmp 8) (.const (.int .i64 0)))), zl 1 53 1 52, zd 2 54 .add 53 1, zm 3 10 54, .g (.keep [0, 1, 6, 8, 9, 10, 31, 32, 33])]) (.block 2 (.loop order_Order_Assignment.b1))) (.seq (.reg 0 [zL 0 68 4 8, .o 1 (.call (some 69) order_place_kinds.id [(.tmp 68)]), .o 2 (.lt (some 70) (.fld true 3 0 (.tmp 69))), zm 3 71 9, .o 4 (.call (some 72) order_span_number.id [(.tmp 70), (.tmp 71)]), zm 5 11 72, .g (.keep [0, 1, 6, 11, 31, 32, 33])]) (.seq (.reg 0 [zm 0 73 11, zd 1 74 .gtr 73 0, .g (.keep [0, 1, 6, 11, 31, 32, 33, 74])]) (.cond (.tmp 74) (.reg 0 [zm 0 75 6, zm 1 76 11, zd 2 77 .sub 76 1, zx 3 78 1 75 77, .o 4 (.store [] 1 (.tmp 78) (.const (.bool true))), .g (.keep [0, 1, 6, 31, 32, 33])]) (.skip))))))))) (.reg 0 [zd 0 79 .add 33 1, zm 1 33 79, .g (.keep [0, 1, 6, 31, 32, 33])])))
def order_Order_Assignment.ir : C := .seq (.reg 0 [.o 0 (.lt (some 4) (.mov (.const (.slice none 0 0)))), zb 1 5 false, .g (.keep [0, 1])]) (.seq (.seq (.reg 0 [zm 0 15 1, zn 1 16 15, zm 2 17 0, zc 3 18 17, zf 4 19 18 0, zl 5 20 1 19, zn 6 21 20, za 7 22 .neq 16 21, .g (.keep [0, 1, 22])]) (.cond (.tmp 22) (.seq (.reg 0 [.o 0 (.lt (some 4) (.mov (.const (.slice none 0 0)))), zb 1 5 false, .g (.keep [4, 5])]) (.ret)) (.skip))) (.seq (.reg 1 [zm 0 23 0, zc 1 24 23, zf 2 25 24 2, zl 3 26 1 25, .o 4 (.mks (some 27) 0 1 1 [.a (.bool false)] (.tmp 26)), zm 5 6 27, .g (.keep [0, 1, 6])]) (.seq (.seq (.reg 0 [zm 0 28 0, zc 1 29 28, zf 2 30 29 0, zl 3 31 1 30, zn 4 32 31, zk 5 33 0, .g (.keep [0, 1, 6, 31, 32, 33])]) (.block 0 (.loop order_Order_Assignment.b0))) (.seq (.seq (.reg 0 [zm 0 80 0, zc 1 81 80, zf 2 82 81 1, zl 3 83 1 82, zn 4 84 83, zk 5 85 0, .g (.keep [1, 6, 83, 84, 85])]) (.block 4 (.loop order_Order_Assignment.b2))) (.seq (.reg 0 [.g (.frz 6), zm 0 107 6, zm 1 4 107, zb 2 5 true, .g (.keep [4, 5])]) (.ret))))))
def order_Order_Assignment.rs : List Rs := [.sl 4, .sl 5]
theorem order_Order_Assignment.ok : isFn Try.prog order_Order_Assignment.id 108 order_Order_Assignment.ann order_Order_Assignment.ir order_Order_Assignment.rs := ⟨Try.f14, _, Try.func14, rfl, rfl, by kernel_rfl, by kernel_rfl⟩
-- (*hallmark/order.Order).Pick
def order_Order_Pick.ann : List (Nat × RA) := [(0, rk [0, 1, 2]), (1, rk [0, 1, 2, 35]), (2, rk [6, 7]), (3, rk [6, 7])]
def order_Order_Pick.ir : C := .seq (.reg 0 [zk 0 6 0, zk 1 7 0, .g (.keep [0, 1, 2])]) (.seq (.seq (.reg 0 [zm 0 8 1, zd 1 9 .lss 8 0, zm 2 10 9, ym 3 10 false 11 1, ym 4 10 false 12 0, yc 5 10 false 13 12, yf 6 10 false 14 13 1, yl 7 10 false 15 1 14, yn 8 10 false 16 15, ya 9 10 false 17 .geq 11 16, zp 10 18 10 true 17, zm 11 19 18, ym 12 19 false 20 2, yd 13 19 false 21 .lss 20 0, zp 14 22 19 true 21, zm 15 23 22, ym 16 23 false 24 2, ym 17 23 false 25 0, yc 18 23 false 26 25, yf 19 23 false 27 26 1, yl 20 23 false 28 1 27, ym 21 23 false 29 1, yx 22 23 false 30 3 28 29, yf 23 23 false 31 30 2, yl 24 23 false 32 1 31, yn 25 23 false 33 32, ya 26 23 false 34 .geq 24 33, zp 27 35 23 true 34, .g (.keep [0, 1, 2, 35])]) (.cond (.tmp 35) (.seq (.reg 0 [zk 0 6 0, zk 1 7 0, .g (.keep [6, 7])]) (.ret)) (.skip))) (.seq (.reg 0 [zm 0 36 0, zc 1 37 36, zf 2 38 37 1, zl 3 39 1 38, zm 4 40 1, zx 5 41 3 39 40, zf 6 42 41 0, zl 7 43 1 42, zm 8 44 2, za 9 45 .add 43 44, zd 10 46 .add 45 1, zm 11 6 46, zk 12 7 1, .g (.keep [6, 7])]) (.ret)))
def order_Order_Pick.rs : List Rs := [.sl 6, .sl 7]
theorem order_Order_Pick.ok : isFn Try.prog order_Order_Pick.id 47 order_Order_Pick.ann order_Order_Pick.ir order_Order_Pick.rs := ⟨Try.f15, _, Try.func15, rfl, rfl, by kernel_rfl, by kernel_rfl⟩
-- (*hallmark/order.Order).Values
def order_Order_Values.ann : List (Nat × RA) := [(0, rk [0, 1]), (1, rk [0, 1, 17]), (2, rk [4, 5]), (3, rk [0, 1, 6]), (4, { gs := [(0, [.wk])], keep := some [1, 6, 21, 22, 23] }), (5, rk [1, 6, 21, 22, 23, 24]), (6, rk [1, 6, 8, 21, 22, 23]), (7, rk [1, 6, 8, 9, 21, 22, 23]), (8, rk [1, 6, 8, 9, 10, 21, 22, 23]), (9, rk [1, 6, 8, 9, 10, 21, 22, 23, 35]), (10, rk [1, 6, 8, 9, 10, 21, 22, 23]), (11, rk [1, 6, 8, 9, 10, 21, 22, 23, 46]), (12, rk [1, 6, 8, 9, 10, 21, 22, 23]), (13, rp [1, 6, 21, 22, 23] [(2, [1000004])]), (14, rk [1, 6, 21, 22, 23]), (15, { gs := [(0, [.frz 6])], keep := some [4, 5] })]
def order_Order_Values.b1 : C := .seq (.seq (.reg 0 [zm 0 32 10, .o 1 (.lt (some 33) (.ixA 4 1 (.tmp 8) (.const (.int .i64 1)))), zl 2 34 1 33, za 3 35 .leq 32 34, .g (.keep [1, 6, 8, 9, 10, 21, 22, 23, 35])]) (.cond (.tmp 35) (.skip) (.exit 2))) (.seq (.block 3 (.seq (.reg 0 [zm 0 38 1, zL 1 39 4 8, .o 2 (.call (some 40) order_place_steps.id [(.tmp 39)]), .o 3 (.lt (some 41) (.fld true 3 0 (.tmp 40))), zm 4 42 10, .o 5 (.call (some 43) order_span_number.id [(.tmp 41), (.tmp 42)]), zd 6 44 .sub 43 1, zx 7 45 1 38 44, zl 8 46 1 45, .g (.keep [1, 6, 8, 9, 10, 21, 22, 23, 46])]) (.cond (.tmp 46) (.reg 0 [zm 0 47 9, zd 1 48 .add 47 1, zm 2 9 48, .g (.keep [1, 6, 8, 9, 10, 21, 22, 23])]) (.skip)))) (.reg 0 [zm 0 36 10, zd 1 37 .add 36 1, zm 2 10 37, .g (.keep [1, 6, 8, 9, 10, 21, 22, 23])]))
def order_Order_Values.b0 : C := .seq (.reg 0 [za 0 24 .lss 23 22, .g (.keep [1, 6, 21, 22, 23, 24])]) (.seq (.cond (.tmp 24) (.skip) (.exit 0)) (.seq (.block 1 (.seq (.reg 1 [zx 0 25 4 21 23, zL 1 26 4 25, .o 2 (.alloc (some 8) 0 4 [.a (.int .i64 0), .a (.int .i64 0), .a (.int .i64 0), .a (.int .i64 0)]), .o 3 (.store [] 4 (.tmp 8) (.tmp 26)), .g (.keep [1, 6, 8, 21, 22, 23])]) (.seq (.reg 0 [.o 0 (.lt (some 27) (.ixA 4 1 (.tmp 8) (.const (.int .i64 0)))), zl 1 28 1 27, zm 2 9 28, .g (.keep [1, 6, 8, 9, 21, 22, 23])]) (.seq (.seq (.reg 0 [.o 0 (.lt (some 29) (.ixA 4 1 (.tmp 8) (.const (.int .i64 0)))), zl 1 30 1 29, zd 2 31 .add 30 1, zm 3 10 31, .g (.keep [1, 6, 8, 9, 10, 21, 22, 23])]) (.block 2 (.loop order_Order_Values.b1))) (.reg 2 [zm 0 49 6, zm 1 50 9, .o 2 (.bsv (some 51) 1 1 [.a (.int .i64 0)] [(0, (.tmp 50))]), .o 3 (.app [] (some 52) 1 1 8 (.tmp 49) (.tmp 51)), zm 4 6 52, .g (.keep [1, 6, 21, 22, 23])]))))) (.reg 0 [zd 0 53 .add 23 1, zm 1 23 53, .g (.keep [1, 6, 21, 22, 23])])))
def order_Order_Values.ir : C := .seq (.reg 0 [.o 0 (.lt (some 4) (.mov (.const (.slice none 0 0)))), zb 1 5 false, .g (.keep [0, 1])]) (.seq (.seq (.reg 0 [zm 0 11 1, zn 1 12 11, zm 2 13 0, zc 3 14 13, zf 4 15 14 2, zl 5 16 1 15, za 6 17 .neq 12 16, .g (.keep [0, 1, 17])]) (.cond (.tmp 17) (.seq (.reg 0 [.o 0 (.lt (some 4) (.mov (.const (.slice none 0 0)))), zb 1 5 false, .g (.keep [4, 5])]) (.ret)) (.skip))) (.seq (.reg 0 [.o 0 (.lt (some 6) (.mov (.const (.slice none 0 0)))), .g (.keep [0, 1, 6])]) (.seq (.seq (.reg 0 [.g (.wk), zm 0 18 0, zc 1 19 18, zf 2 20 19 0, zl 3 21 1 20, zn 4 22 21, zk 5 23 0, .g (.keep [1, 6, 21, 22, 23])]) (.block 0 (.loop order_Order_Values.b0))) (.seq (.reg 0 [.g (.frz 6), zm 0 54 6, zm 1 4 54, zb 2 5 true, .g (.keep [4, 5])]) (.ret)))))
def order_Order_Values.rs : List Rs := [.sl 4, .sl 5]
theorem order_Order_Values.ok : isFn Try.prog order_Order_Values.id 55 order_Order_Values.ann order_Order_Values.ir order_Order_Values.rs := ⟨Try.f16, _, Try.func16, rfl, rfl, by kernel_rfl, by kernel_rfl⟩
-- (*hallmark/order.Order).Count
def order_Order_Count.ann : List (Nat × RA) := [(0, rk [0]), (1, rk [2])]
def order_Order_Count.ir : C := .seq (.reg 0 [zk 0 2 0, .g (.keep [0])]) (.seq (.reg 0 [zm 0 3 0, zc 1 4 3, zf 2 5 4 2, zl 3 6 1 5, zm 4 2 6, .g (.keep [2])]) (.ret))
def order_Order_Count.rs : List Rs := [.sl 2]
theorem order_Order_Count.ok : isFn Try.prog order_Order_Count.id 7 order_Order_Count.ann order_Order_Count.ir order_Order_Count.rs := ⟨Try.f17, _, Try.func17, rfl, rfl, by kernel_rfl, by kernel_rfl⟩
-- hallmark/hallmarklaw6.sameInts
def hallmarklaw6_sameInts.ann : List (Nat × RA) := [(0, rk [0, 1]), (1, rk [0, 1, 10]), (2, rk [4]), (3, rk [0, 1, 5]), (4, rk [0, 1, 5, 14]), (5, rk [0, 1, 5]), (6, ro [0, 1, 5, 25] [0, 1, 2, 3, 4, 5, 6, 7, 8]), (7, rk [4]), (8, rk [4])]
def hallmarklaw6_sameInts.b0 : C := .seq (.seq (.reg 0 [zm 0 11 5, zm 1 12 0, zn 2 13 12, za 3 14 .lss 11 13, .g (.keep [0, 1, 5, 14])]) (.cond (.tmp 14) (.skip) (.exit 0))) (.seq (.block 1 (.seq (.reg 0 [zm 0 17 0, zm 1 18 5, zx 2 19 1 17 18, zl 3 20 1 19, zm 4 21 1, zm 5 22 5, zx 6 23 1 21 22, zl 7 24 1 23, za 8 25 .neq 20 24, .g (.keep [0, 1, 5, 25])]) (.cond (.tmp 25) (.seq (.reg 0 [zb 0 4 false, .g (.keep [4])]) (.ret)) (.skip)))) (.reg 0 [zm 0 15 5, zd 1 16 .add 15 1, zm 2 5 16, .g (.keep [0, 1, 5])]))
def hallmarklaw6_sameInts.ir : C := .seq (.reg 0 [zb 0 4 false, .g (.keep [0, 1])]) (.seq (.seq (.reg 0 [zm 0 6 0, zn 1 7 6, zm 2 8 1, zn 3 9 8, za 4 10 .neq 7 9, .g (.keep [0, 1, 10])]) (.cond (.tmp 10) (.seq (.reg 0 [zb 0 4 false, .g (.keep [4])]) (.ret)) (.skip))) (.seq (.seq (.reg 0 [zk 0 5 0, .g (.keep [0, 1, 5])]) (.block 0 (.loop hallmarklaw6_sameInts.b0))) (.seq (.reg 0 [zb 0 4 true, .g (.keep [4])]) (.ret))))
def hallmarklaw6_sameInts.rs : List Rs := [.sl 4]
theorem hallmarklaw6_sameInts.ok : isFn Try.prog hallmarklaw6_sameInts.id 26 hallmarklaw6_sameInts.ann hallmarklaw6_sameInts.ir hallmarklaw6_sameInts.rs := ⟨Try.f18, _, Try.func18, rfl, rfl, by kernel_rfl, by kernel_rfl⟩
-- (*hallmark/hallmarkroom.Count).Text
def hallmarkroom_Count_Text.ann : List (Nat × RA) := [(0, rp [0, 1] [(1, [1000000])]), (1, rp [] [(3, [1000000])])]
def hallmarkroom_Count_Text.ir : C := .seq (.reg 0 [zm 0 4 0, .o 1 (.callm (some 5) (.func hallmarkroom_Count_Add.id) [(.tmp 4), (.const (.int .i64 1))]), .g (.keep [0, 1])]) (.reg 0 [zm 0 6 0, zm 1 7 1, .o 2 (.lt (some 8) (.lenStr (.tmp 7))), .o 3 (.callm (some 9) (.func hallmarkroom_Count_Add.id) [(.tmp 6), (.tmp 8)]), .g (.keep [])])
def hallmarkroom_Count_Text.rs : List Rs := []
theorem hallmarkroom_Count_Text.ok : isFn Try.prog hallmarkroom_Count_Text.id 10 hallmarkroom_Count_Text.ann hallmarkroom_Count_Text.ir hallmarkroom_Count_Text.rs := ⟨Try.f19, _, Try.func19, rfl, rfl, by kernel_rfl, by kernel_rfl⟩
-- (*hallmark/hallmarkroom.Count).Con
def hallmarkroom_Count_Con.ann : List (Nat × RA) := [(0, rk [0, 3]), (1, rp [0, 3] [(1, [1000000])]), (2, rp [0, 3] [(4, [1000000])]), (3, rp [0, 3] [(4, [1000000])]), (4, rp [0, 3] [(4, [1000000])]), (5, rp [] [(3, [1000000])])]
def hallmarkroom_Count_Con.ir : C := .seq (.reg 1 [.o 0 (.box (some 3) 0 10 (.tmp 1)), .g (.keep [0, 3])]) (.seq (.reg 0 [zm 0 4 0, .o 1 (.callm (some 5) (.func hallmarkroom_Count_Add.id) [(.tmp 4), (.const (.int .i64 1))]), .g (.keep [0, 3])]) (.seq (.reg 0 [zm 0 6 0, zf 1 7 3 2, zl 2 8 1 7, zn 3 9 8, .o 4 (.callm (some 10) (.func hallmarkroom_Count_Add.id) [(.tmp 6), (.tmp 9)]), .g (.keep [0, 3])]) (.seq (.reg 0 [zm 0 11 0, zf 1 12 3 7, zl 2 13 1 12, zn 3 14 13, .o 4 (.callm (some 15) (.func hallmarkroom_Count_Add.id) [(.tmp 11), (.tmp 14)]), .g (.keep [0, 3])]) (.seq (.reg 0 [zm 0 16 0, zf 1 17 3 8, zl 2 18 1 17, zn 3 19 18, .o 4 (.callm (some 20) (.func hallmarkroom_Count_Add.id) [(.tmp 16), (.tmp 19)]), .g (.keep [0, 3])]) (.reg 0 [zm 0 21 0, zf 1 22 3 9, zl 2 23 1 22, .o 3 (.callm (some 24) (.func hallmarkroom_Count_Lists.id) [(.tmp 21), (.tmp 23)]), .g (.keep [])])))))
def hallmarkroom_Count_Con.rs : List Rs := []
theorem hallmarkroom_Count_Con.ok : isFn Try.prog hallmarkroom_Count_Con.id 25 hallmarkroom_Count_Con.ann hallmarkroom_Count_Con.ir hallmarkroom_Count_Con.rs := ⟨Try.f20, _, Try.func20, rfl, rfl, by kernel_rfl, by kernel_rfl⟩
-- hallmark/model.Check
def model_Check.ann : List (Nat × RA) := [(0, rk [1]), (1, rk [1, 19]), (2, rk [2, 3]), (3, rk [1, 22, 23]), (4, rk [1, 22, 23, 24]), (5, rk [1, 4, 22, 23]), (6, rk [1, 4, 5, 22, 23]), (7, rk [1, 4, 5, 22, 23, 31]), (8, rk [2, 3]), (9, rk [1, 22, 23]), (10, rk [1, 38]), (11, rk [2, 3]), (12, rk [1, 43, 44, 45]), (13, rk [1, 43, 44, 45, 46]), (14, rk [1, 6, 7, 43, 44, 45]), (15, rk [1, 6, 8, 43, 44, 45]), (16, rk [1, 6, 8, 43, 44, 45, 56]), (17, rk [2, 3]), (18, rk [1, 43, 44, 45]), (19, rk [1, 9]), (20, rk [1, 9, 67]), (21, rk [2, 3]), (22, rk [2, 3])]
def model_Check.b1 : C := .seq (.reg 0 [za 0 46 .lss 45 44, .g (.keep [1, 43, 44, 45, 46])]) (.seq (.cond (.tmp 46) (.skip) (.exit 2)) (.seq (.block 3 (.seq (.reg 1 [zm 0 47 45, zx 1 48 10 43 45, zL 2 49 10 48, .o 3 (.alloc (some 7) 0 10 [.a (.int .i64 0), .a (.int .i64 0), .a (.slice none 0 0), .a (.int .i64 0), .a (.int .i64 0), .a (.int .i64 0), .a (.int .i64 0), .a (.slice none 0 0), .a (.slice none 0 0), .a (.slice none 0 0)]), zm 4 6 47, .o 5 (.store [] 10 (.tmp 7) (.tmp 49)), .g (.keep [1, 6, 7, 43, 44, 45])]) (.seq (.reg 0 [zL 0 50 10 7, zf 1 51 1 0, zl 2 52 1 51, zn 3 53 52, .o 4 (.call (some 54) model_con.id [(.tmp 50), (.tmp 53)]), zm 5 8 54, .g (.keep [1, 6, 8, 43, 44, 45])]) (.seq (.reg 0 [zm 0 55 8, zd 1 56 .neq 55 0, .g (.keep [1, 6, 8, 43, 44, 45, 56])]) (.cond (.tmp 56) (.seq (.reg 0 [zf 0 57 1 0, zl 1 58 1 57, zn 2 59 58, zm 3 60 6, za 4 61 .add 59 60, zm 5 62 8, zm 6 2 61, zm 7 3 62, .g (.keep [2, 3])]) (.ret)) (.skip)))))) (.reg 0 [zd 0 63 .add 45 1, zm 1 45 63, .g (.keep [1, 43, 44, 45])])))
def model_Check.b0 : C := .seq (.reg 0 [za 0 24 .lss 23 22, .g (.keep [1, 22, 23, 24])]) (.seq (.cond (.tmp 24) (.skip) (.exit 0)) (.seq (.block 1 (.seq (.reg 0 [zm 0 25 23, zm 1 4 25, .g (.keep [1, 4, 22, 23])]) (.seq (.reg 0 [zf 0 26 1 0, zl 1 27 1 26, zm 2 28 4, .o 3 (.call (some 29) model_variable.id [(.tmp 27), (.tmp 28)]), zm 4 5 29, .g (.keep [1, 4, 5, 22, 23])]) (.seq (.reg 0 [zm 0 30 5, zd 1 31 .neq 30 0, .g (.keep [1, 4, 5, 22, 23, 31])]) (.cond (.tmp 31) (.seq (.reg 0 [zm 0 32 4, zm 1 33 5, zm 2 2 32, zm 3 3 33, .g (.keep [2, 3])]) (.ret)) (.skip)))))) (.reg 0 [zd 0 34 .add 23 1, zm 1 23 34, .g (.keep [1, 22, 23])])))
def model_Check.ir : C := .seq (.reg 1 [.o 0 (.box (some 1) 0 4 (.tmp 0)), zk 1 2 0, zk 2 3 0, .g (.keep [1])]) (.seq (.seq (.reg 0 [zf 0 10 1 0, zl 1 11 1 10, zn 2 12 11, zd 3 13 .eql 12 0, zm 4 14 13, yf 5 14 false 15 1 0, yl 6 14 false 16 1 15, yn 7 14 false 17 16, yd 8 14 false 18 .gtr 17 32, zp 9 19 14 true 18, .g (.keep [1, 19])]) (.cond (.tmp 19) (.seq (.reg 0 [zk 0 2 0, zk 1 3 40, .g (.keep [2, 3])]) (.ret)) (.skip))) (.seq (.seq (.reg 0 [zf 0 20 1 0, zl 1 21 1 20, zn 2 22 21, zk 3 23 0, .g (.keep [1, 22, 23])]) (.block 0 (.loop model_Check.b0))) (.seq (.seq (.reg 0 [zf 0 35 1 1, zl 1 36 1 35, zn 2 37 36, zd 3 38 .gtr 37 64, .g (.keep [1, 38])]) (.cond (.tmp 38) (.seq (.reg 0 [zf 0 39 1 0, zl 1 40 1 39, zn 2 41 40, zm 3 2 41, zk 4 3 49, .g (.keep [2, 3])]) (.ret)) (.skip))) (.seq (.seq (.reg 0 [zf 0 42 1 1, zl 1 43 1 42, zn 2 44 43, zk 3 45 0, .g (.keep [1, 43, 44, 45])]) (.block 2 (.loop model_Check.b1))) (.seq (.seq (.reg 0 [zL 0 64 4 1, .o 1 (.call (some 65) model_goal.id [(.tmp 64)]), zm 2 9 65, .g (.keep [1, 9])]) (.seq (.reg 0 [zm 0 66 9, zd 1 67 .neq 66 0, .g (.keep [1, 9, 67])]) (.cond (.tmp 67) (.seq (.reg 0 [zf 0 68 1 0, zl 1 69 1 68, zn 2 70 69, zf 3 71 1 1, zl 4 72 1 71, zn 5 73 72, za 6 74 .add 70 73, zm 7 75 9, zm 8 2 74, zm 9 3 75, .g (.keep [2, 3])]) (.ret)) (.skip)))) (.seq (.reg 0 [zk 0 2 0, zk 1 3 0, .g (.keep [2, 3])]) (.ret)))))))
def model_Check.rs : List Rs := [.sl 2, .sl 3]
theorem model_Check.ok : isFn Try.prog model_Check.id 76 model_Check.ann model_Check.ir model_Check.rs := ⟨Try.f21, _, Try.func21, rfl, rfl, by kernel_rfl, by kernel_rfl⟩
-- slices.ContainsFunc[[]hallmark/api.Con,hallmark/api.Con]
def slices_ContainsFunc_Lapi_Con_api_Con.ann : List (Nat × RA) := [(0, rk [0, 1]), (1, rk [4])]
def slices_ContainsFunc_Lapi_Con_api_Con.ir : C := .seq (.reg 0 [zb 0 4 false, .g (.keep [0, 1])]) (.seq (.reg 0 [zm 0 5 0, zm 1 6 1, .o 2 (.call (some 7) slices_IndexFunc_Lapi_Con_api_Con.id [(.tmp 5), (.tmp 6)]), zd 3 8 .geq 7 0, zm 4 4 8, .g (.keep [4])]) (.ret))
def slices_ContainsFunc_Lapi_Con_api_Con.rs : List Rs := [.sl 4]
theorem slices_ContainsFunc_Lapi_Con_api_Con.ok : isFn Try.prog slices_ContainsFunc_Lapi_Con_api_Con.id 9 slices_ContainsFunc_Lapi_Con_api_Con.ann slices_ContainsFunc_Lapi_Con_api_Con.ir slices_ContainsFunc_Lapi_Con_api_Con.rs := ⟨Try.f22, _, Try.func22, rfl, rfl, by kernel_rfl, by kernel_rfl⟩
-- hallmark/order.New$1
def order_New_1.ann : List (Nat × RA) := [(0, rk [1, 2]), (1, rk [3])]
def order_New_1.ir : C := .seq (.reg 1 [.o 0 (.box (some 2) 0 10 (.tmp 0)), zb 1 3 false, .g (.keep [1, 2])]) (.seq (.reg 0 [zf 0 4 2 0, zl 1 5 1 4, zd 2 6 .eql 5 3, zm 3 7 6, yf 4 7 false 8 2 0, yl 5 7 false 9 1 8, yd 6 7 false 10 .eql 9 9, zp 7 11 7 true 10, zm 8 12 11, yf 9 12 true 13 2 7, yl 10 12 true 14 1 13, yl 11 12 true 15 1 1, .gd 12 12 true (some 16) (.call (some 16) slices_Contains_Lint_int.id [(.tmp 14), (.tmp 15)]), zr 13 17 12 16 false, zm 14 3 17, .g (.keep [3])]) (.ret))
def order_New_1.rs : List Rs := [.sl 3]
theorem order_New_1.ok : isFn Try.prog order_New_1.id 18 order_New_1.ann order_New_1.ir order_New_1.rs := ⟨Try.f23, _, Try.func23, rfl, rfl, by kernel_rfl, by kernel_rfl⟩
-- slices.Contains[[]int,int]
def slices_Contains_Lint_int.ann : List (Nat × RA) := [(0, rk [0, 1]), (1, rk [4])]
def slices_Contains_Lint_int.ir : C := .seq (.reg 0 [zb 0 4 false, .g (.keep [0, 1])]) (.seq (.reg 0 [zm 0 5 0, zm 1 6 1, .o 2 (.call (some 7) slices_Index_Lint_int.id [(.tmp 5), (.tmp 6)]), zd 3 8 .geq 7 0, zm 4 4 8, .g (.keep [4])]) (.ret))
def slices_Contains_Lint_int.rs : List Rs := [.sl 4]
theorem slices_Contains_Lint_int.ok : isFn Try.prog slices_Contains_Lint_int.id 9 slices_Contains_Lint_int.ann slices_Contains_Lint_int.ir slices_Contains_Lint_int.rs := ⟨Try.f24, _, Try.func24, rfl, rfl, by kernel_rfl, by kernel_rfl⟩
-- slices.Clone[[]int,int]
def slices_Clone_Lint_int.ann : List (Nat × RA) := [(0, rk [0]), (1, rk [0, 4]), (2, rk [2]), (3, rk [2])]
def slices_Clone_Lint_int.ir : C := .seq (.reg 0 [.o 0 (.lt (some 2) (.mov (.const (.slice none 0 0)))), .g (.keep [0])]) (.seq (.seq (.reg 0 [zm 0 3 0, .o 1 (.lt (some 4) (.eqN false (.tmp 3))), .g (.keep [0, 4])]) (.cond (.tmp 4) (.seq (.reg 0 [.o 0 (.lt (some 2) (.mov (.const (.slice none 0 0)))), .g (.keep [2])]) (.ret)) (.skip))) (.seq (.reg 2 [.o 0 (.bsl (some 5) 0 1 0 [.a (.int .i64 0)] []), zm 1 6 0, .o 2 (.app [] (some 7) 1 1 8 (.tmp 5) (.tmp 6)), zm 3 2 7, .g (.keep [2])]) (.ret)))
def slices_Clone_Lint_int.rs : List Rs := [.sl 2]
theorem slices_Clone_Lint_int.ok : isFn Try.prog slices_Clone_Lint_int.id 8 slices_Clone_Lint_int.ann slices_Clone_Lint_int.ir slices_Clone_Lint_int.rs := ⟨Try.f25, _, Try.func25, rfl, rfl, by kernel_rfl, by kernel_rfl⟩
-- hallmark/order.rows
def order_rows.ann : List (Nat × RA) := [(0, rk [0]), (1, rk [0, 3]), (2, { gs := [(0, [.wk])], keep := some [3, 6, 7, 8] }), (3, rk [3, 6, 7, 8, 9]), (4, rk [3, 5, 6, 7, 8]), (5, rp [3, 6, 7, 8] [(3, [1000004])]), (6, rk [3, 6, 7, 8]), (7, { gs := [(0, [.frz 3])], keep := some [2] })]
def order_rows.b0 : C := .seq (.reg 0 [za 0 9 .lss 8 7, .g (.keep [3, 6, 7, 8, 9])]) (.seq (.cond (.tmp 9) (.skip) (.exit 0)) (.seq (.block 1 (.seq (.reg 0 [zx 0 10 1 6 8, zl 1 11 1 10, zm 2 5 11, .g (.keep [3, 5, 6, 7, 8])]) (.reg 2 [zm 0 12 3, zm 1 13 5, .o 2 (.call (some 14) slices_Clone_Lint_int.id [(.tmp 13)]), .o 3 (.bsv (some 15) 1 1 [.a (.slice none 0 0)] [(0, (.tmp 14))]), .o 4 (.app [] (some 16) 1 1 24 (.tmp 12) (.tmp 15)), zm 5 3 16, .g (.keep [3, 6, 7, 8])]))) (.reg 0 [zd 0 17 .add 8 1, zm 1 8 17, .g (.keep [3, 6, 7, 8])])))
def order_rows.ir : C := .seq (.reg 0 [.o 0 (.lt (some 2) (.mov (.const (.slice none 0 0)))), .g (.keep [0])]) (.seq (.reg 0 [.o 0 (.lt (some 3) (.mov (.const (.slice none 0 0)))), .g (.keep [0, 3])]) (.seq (.seq (.reg 0 [.g (.wk), zm 0 6 0, zn 1 7 6, zk 2 8 0, .g (.keep [3, 6, 7, 8])]) (.block 0 (.loop order_rows.b0))) (.seq (.reg 0 [.g (.frz 3), zm 0 18 3, zm 1 2 18, .g (.keep [2])]) (.ret))))
def order_rows.rs : List Rs := [.sl 2]
theorem order_rows.ok : isFn Try.prog order_rows.id 19 order_rows.ann order_rows.ir order_rows.rs := ⟨Try.f26, _, Try.func26, rfl, rfl, by kernel_rfl, by kernel_rfl⟩
-- (*hallmark/order.Order).at
def order_Order_at.ann : List (Nat × RA) := [(0, rk [0, 1, 4]), (1, rk [0, 1, 4, 15]), (2, rk [4]), (3, rk [4])]
def order_Order_at.ir : C := .seq (.reg 1 [.o 0 (.alloc (some 4) 0 4 [.a (.int .i64 0), .a (.int .i64 0), .a (.int .i64 0), .a (.int .i64 0)]), .g (.keep [0, 1, 4])]) (.seq (.seq (.reg 0 [zm 0 5 1, zd 1 6 .lss 5 0, zm 2 7 6, ym 3 7 false 8 1, ym 4 7 false 9 0, yc 5 7 false 10 9, yf 6 7 false 11 10 0, yl 7 7 false 12 1 11, yn 8 7 false 13 12, ya 9 7 false 14 .geq 8 13, zp 10 15 7 true 14, .g (.keep [0, 1, 4, 15])]) (.cond (.tmp 15) (.seq (.reg 0 [.o 0 (.lt (some 16) (.build [.a (.int .i64 0), .a (.int .i64 0), .a (.int .i64 0), .a (.int .i64 0)] [])), .o 1 (.store [] 4 (.tmp 4) (.tmp 16)), .g (.keep [4])]) (.ret)) (.skip))) (.seq (.reg 0 [zm 0 17 0, zc 1 18 17, zf 2 19 18 0, zl 3 20 1 19, zm 4 21 1, zx 5 22 4 20 21, zL 6 23 4 22, .o 7 (.store [] 4 (.tmp 4) (.tmp 23)), .g (.keep [4])]) (.ret)))
def order_Order_at.rs : List Rs := [.ce 4 true 4]
theorem order_Order_at.ok : isFn Try.prog order_Order_at.id 24 order_Order_at.ann order_Order_at.ir order_Order_at.rs := ⟨Try.f27, _, Try.func27, rfl, rfl, by kernel_rfl, by kernel_rfl⟩
-- (*hallmark/order.Order).is
def order_Order_is.ann : List (Nat × RA) := [(0, rk [0, 1]), (1, rk [4])]
def order_Order_is.ir : C := .seq (.reg 0 [zb 0 4 false, .g (.keep [0, 1])]) (.seq (.reg 0 [zm 0 5 1, zd 1 6 .geq 5 0, zm 2 7 6, ym 3 7 true 8 1, ym 4 7 true 9 0, yc 5 7 true 10 9, yf 6 7 true 11 10 0, yl 7 7 true 12 1 11, yn 8 7 true 13 12, ya 9 7 true 14 .lss 8 13, zr 10 15 7 14 false, zm 11 4 15, .g (.keep [4])]) (.ret))
def order_Order_is.rs : List Rs := [.sl 4]
theorem order_Order_is.ok : isFn Try.prog order_Order_is.id 16 order_Order_is.ann order_Order_is.ir order_Order_is.rs := ⟨Try.f28, _, Try.func28, rfl, rfl, by kernel_rfl, by kernel_rfl⟩
-- (hallmark/order.place).steps
def order_place_steps.ann : List (Nat × RA) := [(0, rk [1, 2]), (1, rk [2])]
def order_place_steps.ir : C := .seq (.reg 2 [.o 0 (.box (some 1) 0 4 (.tmp 0)), .o 1 (.alloc (some 2) 1 3 [.a (.int .i64 0), .a (.int .i64 0), .a (.int .i64 0)]), .g (.keep [1, 2])]) (.seq (.reg 0 [.o 0 (.lt (some 3) (.ixA 4 1 (.tmp 1) (.const (.int .i64 2)))), zl 1 4 1 3, .o 2 (.lt (some 5) (.ixA 4 1 (.tmp 1) (.const (.int .i64 0)))), zl 3 6 1 5, zd 4 7 .add 6 1, .o 5 (.lt (some 8) (.ixA 4 1 (.tmp 1) (.const (.int .i64 1)))), zl 6 9 1 8, .o 7 (.lt (some 10) (.build [.a (.int .i64 0), .a (.int .i64 0), .a (.int .i64 0)] [(0, 1, (.tmp 4)), (1, 1, (.tmp 7)), (2, 1, (.tmp 9))])), .o 8 (.lt (some 11) (.build [.a (.int .i64 0), .a (.int .i64 0), .a (.int .i64 0)] [(0, 3, (.tmp 10))])), .o 9 (.store [] 3 (.tmp 2) (.tmp 11)), .g (.keep [2])]) (.ret))
def order_place_steps.rs : List Rs := [.ce 2 true 3]
theorem order_place_steps.ok : isFn Try.prog order_place_steps.id 12 order_place_steps.ann order_place_steps.ir order_place_steps.rs := ⟨Try.f29, _, Try.func29, rfl, rfl, by kernel_rfl, by kernel_rfl⟩
-- (hallmark/order.span).number
def order_span_number.ann : List (Nat × RA) := [(0, rk [1, 2]), (1, rk [1, 2, 19]), (2, rk [4]), (3, rk [4])]
def order_span_number.ir : C := .seq (.reg 1 [.o 0 (.box (some 2) 0 3 (.tmp 0)), zk 1 4 0, .g (.keep [1, 2])]) (.seq (.seq (.reg 0 [zf 0 5 2 0, zl 1 6 1 5, zd 2 7 .eql 6 0, zm 3 8 7, ym 4 8 false 9 1, yf 5 8 false 10 2 1, yl 6 8 false 11 1 10, ya 7 8 false 12 .lss 9 11, zp 8 13 8 true 12, zm 9 14 13, ym 10 14 false 15 1, yf 11 14 false 16 2 2, yl 12 14 false 17 1 16, ya 13 14 false 18 .gtr 15 17, zp 14 19 14 true 18, .g (.keep [1, 2, 19])]) (.cond (.tmp 19) (.seq (.reg 0 [zk 0 4 0, .g (.keep [4])]) (.ret)) (.skip))) (.seq (.reg 0 [zf 0 20 2 0, zl 1 21 1 20, zm 2 22 1, za 3 23 .add 21 22, zf 4 24 2 1, zl 5 25 1 24, za 6 26 .sub 23 25, zm 7 4 26, .g (.keep [4])]) (.ret)))
def order_span_number.rs : List Rs := [.sl 4]
theorem order_span_number.ok : isFn Try.prog order_span_number.id 27 order_span_number.ann order_span_number.ir order_span_number.rs := ⟨Try.f30, _, Try.func30, rfl, rfl, by kernel_rfl, by kernel_rfl⟩
-- (hallmark/order.span).value
def order_span_value.ann : List (Nat × RA) := [(0, rk [1, 2]), (1, rk [1, 2, 6]), (2, rk [4, 5])]
def order_span_value.ir : C := .seq (.reg 1 [.o 0 (.box (some 2) 0 3 (.tmp 0)), zk 1 4 0, zb 2 5 false, .g (.keep [1, 2])]) (.seq (.reg 0 [zf 0 7 2 0, zl 1 8 1 7, zd 2 9 .gtr 8 0, zm 3 10 9, ym 4 10 true 11 1, yf 5 10 true 12 2 0, yl 6 10 true 13 1 12, ya 7 10 true 14 .geq 11 13, zr 8 15 10 14 false, zm 9 16 15, ym 10 16 true 17 1, yf 11 16 true 18 2 0, yl 12 16 true 19 1 18, yf 13 16 true 20 2 2, yl 14 16 true 21 1 20, ya 15 16 true 22 .add 19 21, yf 16 16 true 23 2 1, yl 17 16 true 24 1 23, ya 18 16 true 25 .sub 22 24, ya 19 16 true 26 .leq 17 25, zr 20 27 16 26 false, zm 21 6 27, .g (.keep [1, 2, 6])]) (.seq (.reg 0 [zf 0 28 2 1, zl 1 29 1 28, zm 2 30 1, za 3 31 .add 29 30, zf 4 32 2 0, zl 5 33 1 32, za 6 34 .sub 31 33, zm 7 35 6, zm 8 4 34, zm 9 5 35, .g (.keep [4, 5])]) (.ret)))
def order_span_value.rs : List Rs := [.sl 4, .sl 5]
theorem order_span_value.ok : isFn Try.prog order_span_value.id 36 order_span_value.ann order_span_value.ir order_span_value.rs := ⟨Try.f31, _, Try.func31, rfl, rfl, by kernel_rfl, by kernel_rfl⟩
-- (hallmark/order.place).kinds
def order_place_kinds.ann : List (Nat × RA) := [(0, rk [1, 2]), (1, rk [2])]
def order_place_kinds.ir : C := .seq (.reg 2 [.o 0 (.box (some 1) 0 4 (.tmp 0)), .o 1 (.alloc (some 2) 1 3 [.a (.int .i64 0), .a (.int .i64 0), .a (.int .i64 0)]), .g (.keep [1, 2])]) (.seq (.reg 0 [.o 0 (.lt (some 3) (.ixA 4 1 (.tmp 1) (.const (.int .i64 3)))), zl 1 4 1 3, .o 2 (.lt (some 5) (.ixA 4 1 (.tmp 1) (.const (.int .i64 0)))), zl 3 6 1 5, .o 4 (.lt (some 7) (.ixA 4 1 (.tmp 1) (.const (.int .i64 1)))), zl 5 8 1 7, .o 6 (.lt (some 9) (.build [.a (.int .i64 0), .a (.int .i64 0), .a (.int .i64 0)] [(0, 1, (.tmp 4)), (1, 1, (.tmp 6)), (2, 1, (.tmp 8))])), .o 7 (.lt (some 10) (.build [.a (.int .i64 0), .a (.int .i64 0), .a (.int .i64 0)] [(0, 3, (.tmp 9))])), .o 8 (.store [] 3 (.tmp 2) (.tmp 10)), .g (.keep [2])]) (.ret))
def order_place_kinds.rs : List Rs := [.ce 2 true 3]
theorem order_place_kinds.ok : isFn Try.prog order_place_kinds.id 11 order_place_kinds.ann order_place_kinds.ir order_place_kinds.rs := ⟨Try.f32, _, Try.func32, rfl, rfl, by kernel_rfl, by kernel_rfl⟩
-- (hallmark/order.table).holds
def order_table_holds.ann : List (Nat × RA) := [(0, rk [1, 2, 3]), (1, rk [1, 2, 3, 10, 11, 12]), (2, rk [1, 2, 3, 10, 11, 12, 13]), (3, rk [1, 2, 3, 7, 8, 10, 11, 12]), (4, ro [1, 2, 3, 10, 11, 12, 29] [0, 1, 2, 3, 4, 5, 6, 7, 8, 9, 10, 11, 12]), (5, rk [6]), (6, rk [1, 2, 3, 10, 11, 12]), (7, rk [6])]
def order_table_holds.b0 : C := .seq (.reg 0 [za 0 13 .lss 12 11, .g (.keep [1, 2, 3, 10, 11, 12, 13])]) (.seq (.cond (.tmp 13) (.skip) (.exit 0)) (.seq (.block 1 (.seq (.reg 0 [zm 0 14 12, zx 1 15 1 10 12, zl 2 16 1 15, zm 3 7 14, zm 4 8 16, .g (.keep [1, 2, 3, 7, 8, 10, 11, 12])]) (.seq (.reg 0 [zm 0 17 2, zm 1 18 8, zx 2 19 1 17 18, zl 3 20 1 19, zf 4 21 3 2, zl 5 22 1 21, zm 6 23 1, zx 7 24 1 22 23, zl 8 25 1 24, zm 9 26 7, zx 10 27 1 25 26, zl 11 28 1 27, za 12 29 .neq 20 28, .g (.keep [1, 2, 3, 10, 11, 12, 29])]) (.cond (.tmp 29) (.seq (.reg 0 [zb 0 6 false, .g (.keep [6])]) (.ret)) (.skip))))) (.reg 0 [zd 0 30 .add 12 1, zm 1 12 30, .g (.keep [1, 2, 3, 10, 11, 12])])))
def order_table_holds.ir : C := .seq (.reg 1 [.o 0 (.box (some 3) 0 3 (.tmp 0)), zb 1 6 false, .g (.keep [1, 2, 3])]) (.seq (.seq (.reg 0 [zf 0 9 3 1, zl 1 10 1 9, zn 2 11 10, zk 3 12 0, .g (.keep [1, 2, 3, 10, 11, 12])]) (.block 0 (.loop order_table_holds.b0))) (.seq (.reg 0 [zb 0 6 true, .g (.keep [6])]) (.ret)))
def order_table_holds.rs : List Rs := [.sl 6]
theorem order_table_holds.ok : isFn Try.prog order_table_holds.id 31 order_table_holds.ann order_table_holds.ir order_table_holds.rs := ⟨Try.f33, _, Try.func33, rfl, rfl, by kernel_rfl, by kernel_rfl⟩
-- (*hallmark/hallmarkroom.Count).Lists
def hallmarkroom_Count_Lists.ann : List (Nat × RA) := [(0, rk [0, 1, 4]), (1, rp [0, 1, 4, 12] [(6, [1000000])]), (2, rk [0, 1, 4]), (3, rp [0, 1, 4] [(1, [1000000])]), (4, rp [0, 1, 4] [(6, [1000000])])]
def hallmarkroom_Count_Lists.b0 : C := .seq (.seq (.reg 0 [zm 0 5 4, zm 1 6 1, zn 2 7 6, za 3 8 .lss 5 7, zm 4 9 8, ym 5 9 true 10 0, .gd 6 9 true (some 11) (.callm (some 11) (.func hallmarkroom_Count_Ok.id) [(.tmp 10)]), zr 7 12 9 11 false, .g (.keep [0, 1, 4, 12])]) (.cond (.tmp 12) (.skip) (.exit 0))) (.seq (.block 1 (.seq (.reg 0 [zm 0 15 0, .o 1 (.callm (some 16) (.func hallmarkroom_Count_Add.id) [(.tmp 15), (.const (.int .i64 1))]), .g (.keep [0, 1, 4])]) (.reg 0 [zm 0 17 0, zm 1 18 1, zm 2 19 4, zx 3 20 1 18 19, zl 4 21 1 20, zn 5 22 21, .o 6 (.callm (some 23) (.func hallmarkroom_Count_Add.id) [(.tmp 17), (.tmp 22)]), .g (.keep [0, 1, 4])]))) (.reg 0 [zm 0 13 4, zd 1 14 .add 13 1, zm 2 4 14, .g (.keep [0, 1, 4])]))
def hallmarkroom_Count_Lists.ir : C := .seq (.reg 0 [zk 0 4 0, .g (.keep [0, 1, 4])]) (.block 0 (.loop hallmarkroom_Count_Lists.b0))
def hallmarkroom_Count_Lists.rs : List Rs := []
theorem hallmarkroom_Count_Lists.ok : isFn Try.prog hallmarkroom_Count_Lists.id 24 hallmarkroom_Count_Lists.ann hallmarkroom_Count_Lists.ir hallmarkroom_Count_Lists.rs := ⟨Try.f34, _, Try.func34, rfl, rfl, by kernel_rfl, by kernel_rfl⟩
-- hallmark/model.variable
def model_variable.ann : List (Nat × RA) := [(0, rk [0, 1]), (1, rk [0, 1, 5]), (2, rp [5, 20] [(9, [1000001])]), (3, rk [4]), (4, rk [45]), (5, rk [4]), (6, rk [4])]
def model_variable.ir : C := .seq (.reg 0 [zk 0 4 0, .g (.keep [0, 1])]) (.seq (.reg 1 [zm 0 6 0, zm 1 7 1, zx 2 8 3 6 7, zL 3 9 3 8, .o 4 (.alloc (some 5) 0 3 [.a (.string ⟨#[]⟩), .a (.int .i64 0), .a (.int .i64 0)]), .o 5 (.store [] 3 (.tmp 5) (.tmp 9)), .g (.keep [0, 1, 5])]) (.seq (.seq (.reg 0 [zf 0 10 5 0, zl 1 11 1 10, .o 2 (.call (some 12) model_isName.id [(.tmp 11)]), zq 3 13 12, zm 4 14 13, ym 5 14 false 15 0, ym 6 14 false 16 1, .gd 7 14 false (some 17) (.lt (some 17) (.slSl 3 (.tmp 15) none (some (.tmp 16)))), .gd 8 14 false (some 18) (.lt (some 18) (.mkfn (.func model_variable_1.id) [] [(.tmp 5)])), .gd 9 14 false (some 19) (.callb (some 19) (.func slices_ContainsFunc_Lapi_Var_api_Var.id) [(.tmp 17), (.tmp 18)]), zp 10 20 14 true 19, .g (.keep [5, 20])]) (.cond (.tmp 20) (.seq (.reg 0 [zk 0 4 41, .g (.keep [4])]) (.ret)) (.skip))) (.seq (.seq (.reg 0 [zf 0 21 5 1, zl 1 22 1 21, .o 2 (.call (some 23) model_within.id [(.tmp 22), (.const (.int .i64 1000000000))]), zq 3 24 23, zm 4 25 24, yf 5 25 false 26 5 2, yl 6 25 false 27 1 26, .gd 7 25 false (some 28) (.call (some 28) model_within.id [(.tmp 27), (.const (.int .i64 1000000000))]), yq 8 25 false 29 28, zp 9 30 25 true 29, zm 10 31 30, yf 11 31 false 32 5 1, yl 12 31 false 33 1 32, yf 13 31 false 34 5 2, yl 14 31 false 35 1 34, ya 15 31 false 36 .gtr 33 35, zp 16 37 31 true 36, zm 17 38 37, yf 18 38 false 39 5 2, yl 19 38 false 40 1 39, yf 20 38 false 41 5 1, yl 21 38 false 42 1 41, ya 22 38 false 43 .sub 40 42, yd 23 38 false 44 .geq 43 64, zp 24 45 38 true 44, .g (.keep [45])]) (.cond (.tmp 45) (.seq (.reg 0 [zk 0 4 42, .g (.keep [4])]) (.ret)) (.skip))) (.seq (.reg 0 [zk 0 4 0, .g (.keep [4])]) (.ret)))))
def model_variable.rs : List Rs := [.sl 4]
theorem model_variable.ok : isFn Try.prog model_variable.id 46 model_variable.ann model_variable.ir model_variable.rs := ⟨Try.f35, _, Try.func35, rfl, rfl, by kernel_rfl, by kernel_rfl⟩
-- hallmark/model.con
def model_con.ann : List (Nat × RA) := [(0, rk [2, 3]), (1, ro [2, 3, 5, 6] [1, 2, 0, 3, 4, 5, 6, 7, 8, 9]), (2, rk [2, 3, 5, 32]), (3, rk [4]), (4, rk [2, 3, 5, 7, 8]), (5, rk [2, 5, 7, 8, 9]), (6, rk [2, 5, 7, 8, 9, 41]), (7, rk [4]), (8, rk [2, 5, 7, 8, 9, 45]), (9, rk [2, 5, 7, 8, 9, 45]), (10, rk [2, 5, 7, 8, 9, 45]), (11, rk [2, 5, 7, 8, 9, 45]), (12, rk [4]), (13, rk [2, 5, 8, 9, 70]), (14, rp [2, 5, 8, 9, 70] [(6, [1000001])]), (15, rp [2, 8, 9, 70] [(6, [1000001])]), (16, rp [2, 8, 70] [(3, [1000001])]), (17, rk [4]), (18, rk [2, 92]), (19, rk [4]), (20, rk [2, 94]), (21, rk [2, 94]), (22, rk [2, 94]), (23, rp [94] [(2, [1000001])]), (24, rk [4]), (25, rk [4])]
def model_con.ir : C := .seq (.reg 2 [.o 0 (.box (some 2) 0 10 (.tmp 0)), .o 1 (.box (some 3) 1 1 (.tmp 1)), zk 2 4 0, .g (.keep [2, 3])]) (.seq (.reg 1 [zf 1 12 2 0, zl 2 13 1 12, .o 0 (.call (some 11) model_kinds.id []), .o 3 (.lt (some 14) (.lkp true .i64 (.agg [.a (.bool false), .a (.bool false), .a (.bool false), .a (.bool false), .a (.bool false), .a (.bool false), .a (.bool false), .a (.bool false), .a (.bool false), .a (.nilFunc)]) (.tmp 11) (.tmp 13))), zm 4 10 14, ze 5 15 10 0, ze 6 16 10 1, .o 7 (.alloc (some 5) 0 10 [.a (.bool false), .a (.bool false), .a (.bool false), .a (.bool false), .a (.bool false), .a (.bool false), .a (.bool false), .a (.bool false), .a (.bool false), .a (.nilFunc)]), .o 8 (.store [] 10 (.tmp 5) (.tmp 15)), zm 9 6 16, .g (.keep [2, 3, 5, 6])]) (.seq (.seq (.reg 0 [zm 0 17 6, zq 1 18 17, zm 2 19 18, yf 3 19 false 20 5 7, yl 4 19 false 21 1 20, ym 5 19 false 22 21, yf 6 22 true 23 2 1, yl 7 22 true 24 1 23, yd 8 22 true 25 .lss 24 1, ym 9 22 true 26 25, yf 10 26 false 27 2 1, yl 11 26 false 28 1 27, yd 12 26 false 29 .gtr 28 3, yp 13 22 true 30 26 true 29, yr 14 19 false 31 22 30 false, zp 15 32 19 true 31, .g (.keep [2, 3, 5, 32])]) (.cond (.tmp 32) (.seq (.reg 0 [zk 0 4 43, .g (.keep [4])]) (.ret)) (.skip))) (.seq (.reg 0 [zf 0 34 2 2, zl 1 35 1 34, zl 2 36 1 3, .o 3 (.call (some 37) model_terms.id [(.tmp 35), (.tmp 36)]), zm 4 33 37, ze 5 38 33 0, ze 6 39 33 1, zm 7 7 38, zm 8 8 39, .g (.keep [2, 3, 5, 7, 8])]) (.seq (.reg 0 [.o 0 (.lt (some 40) (.mkfn (.func model_con_1.id) [] [(.tmp 3)])), zm 1 9 40, .g (.keep [2, 5, 7, 8, 9])]) (.seq (.block 0 (.seq (.reg 0 [zL 0 42 10 2, zL 1 43 10 5, .o 2 (.call (some 44) model_field.id [(.tmp 42), (.tmp 43)]), zm 3 41 44, .g (.keep [2, 5, 7, 8, 9, 41])]) (.cond (.tmp 41) (.seq (.reg 0 [zk 0 4 48, .g (.keep [4])]) (.ret)) (.seq (.seq (.reg 0 [zf 0 46 5 0, zl 1 47 1 46, zf 2 48 2 2, zl 3 49 1 48, zn 4 50 49, .o 5 (.call (some 51) model_counts.id [(.tmp 47), (.tmp 50)]), zq 6 52 51, zm 7 45 52, .g (.keep [2, 5, 7, 8, 9, 45])]) (.cond (.tmp 45) (.skip) (.seq (.reg 0 [zf 0 53 5 1, zl 1 54 1 53, zf 2 55 2 7, zl 3 56 1 55, zn 4 57 56, .o 5 (.call (some 58) model_counts.id [(.tmp 54), (.tmp 57)]), zq 6 59 58, zm 7 45 59, .g (.keep [2, 5, 7, 8, 9, 45])]) (.cond (.tmp 45) (.skip) (.seq (.reg 0 [zf 0 60 5 2, zl 1 61 1 60, zf 2 62 2 8, zl 3 63 1 62, zn 4 64 63, .o 5 (.call (some 65) model_counts.id [(.tmp 61), (.tmp 64)]), zq 6 66 65, zm 7 45 66, .g (.keep [2, 5, 7, 8, 9, 45])]) (.cond (.tmp 45) (.skip) (.reg 0 [zL 0 67 10 2, zL 1 68 10 5, .o 2 (.call (some 69) model_wide.id [(.tmp 67), (.tmp 68)]), zm 3 45 69, .g (.keep [2, 5, 7, 8, 9, 45])]))))))) (.cond (.tmp 45) (.seq (.reg 0 [zk 0 4 47, .g (.keep [4])]) (.ret)) (.seq (.seq (.reg 0 [zm 0 71 7, zm 1 70 71, .g (.keep [2, 5, 8, 9, 70])]) (.cond (.tmp 70) (.skip) (.seq (.reg 0 [zf 0 72 5 4, zl 1 73 1 72, zm 2 74 73, ym 3 74 true 75 9, yf 4 74 true 76 2 5, yl 5 74 true 77 1 76, .gd 6 74 true (some 78) (.callb (some 78) (.tmp 75) [(.tmp 77)]), zr 7 79 74 78 false, zm 8 70 79, .g (.keep [2, 5, 8, 9, 70])]) (.cond (.tmp 70) (.skip) (.seq (.reg 0 [zf 0 80 5 5, zl 1 81 1 80, zm 2 82 81, ym 3 82 true 83 9, yf 4 82 true 84 2 6, yl 5 82 true 85 1 84, .gd 6 82 true (some 86) (.callb (some 86) (.tmp 83) [(.tmp 85)]), zr 7 87 82 86 false, zm 8 70 87, .g (.keep [2, 8, 9, 70])]) (.cond (.tmp 70) (.skip) (.reg 0 [zf 0 88 2 7, zl 1 89 1 88, zm 2 90 9, .o 3 (.callb (some 91) (.func slices_ContainsFunc_Lint_int.id) [(.tmp 89), (.tmp 90)]), zm 4 70 91, .g (.keep [2, 8, 70])]))))))) (.cond (.tmp 70) (.seq (.reg 0 [zk 0 4 44, .g (.keep [4])]) (.ret)) (.seq (.reg 0 [zm 0 93 8, zm 1 92 93, .g (.keep [2, 92])]) (.cond (.tmp 92) (.seq (.reg 0 [zk 0 4 45, .g (.keep [4])]) (.ret)) (.seq (.seq (.reg 0 [zf 0 95 2 3, zl 1 96 1 95, .o 2 (.call (some 97) model_within.id [(.tmp 96), (.const (.int .i64 1000000000))]), zq 3 98 97, zm 4 94 98, .g (.keep [2, 94])]) (.cond (.tmp 94) (.skip) (.seq (.reg 0 [zf 0 99 2 4, zl 1 100 1 99, .o 2 (.call (some 101) model_within.id [(.tmp 100), (.const (.int .i64 1000000000))]), zq 3 102 101, zm 4 94 102, .g (.keep [2, 94])]) (.cond (.tmp 94) (.skip) (.seq (.reg 0 [zf 0 103 2 8, zl 1 104 1 103, .o 2 (.call (some 105) model_great.id [(.tmp 104)]), zm 3 94 105, .g (.keep [2, 94])]) (.cond (.tmp 94) (.skip) (.reg 0 [zf 0 106 2 9, zl 1 107 1 106, .o 2 (.callb (some 108) (.func slices_ContainsFunc_LLint_Lint.id) [(.tmp 107), (.func model_great.id)]), zm 3 94 108, .g (.keep [94])]))))))) (.cond (.tmp 94) (.seq (.reg 0 [zk 0 4 46, .g (.keep [4])]) (.ret)) (.skip)))))))))))) (.seq (.reg 0 [zk 0 4 0, .g (.keep [4])]) (.ret)))))))
def model_con.rs : List Rs := [.sl 4]
theorem model_con.ok : isFn Try.prog model_con.id 109 model_con.ann model_con.ir model_con.rs := ⟨Try.f36, _, Try.func36, rfl, rfl, by kernel_rfl, by kernel_rfl⟩
-- hallmark/model.goal
def model_goal.ann : List (Nat × RA) := [(0, rk [1]), (1, rk [1, 3, 4]), (2, rk [1, 3, 4, 14]), (3, rk [2]), (4, rk [3, 4, 24]), (5, rk [2]), (6, rk [4, 32]), (7, rk [2]), (8, rk [34]), (9, rk [2]), (10, rk [2])]
def model_goal.ir : C := .seq (.reg 1 [.o 0 (.box (some 1) 0 4 (.tmp 0)), zk 1 2 0, .g (.keep [1])]) (.seq (.reg 0 [zf 0 6 1 3, zl 1 7 1 6, zf 2 8 1 0, zl 3 9 1 8, zn 4 10 9, .o 5 (.call (some 11) model_terms.id [(.tmp 7), (.tmp 10)]), zm 6 5 11, ze 7 12 5 0, ze 8 13 5 1, zm 9 3 12, zm 10 4 13, .g (.keep [1, 3, 4])]) (.seq (.block 0 (.seq (.reg 0 [zf 0 15 1 2, zl 1 16 1 15, zq 2 17 16, zm 3 18 17, yf 4 18 true 19 1 3, yl 5 18 true 20 1 19, yn 6 18 true 21 20, yd 7 18 true 22 .gtr 21 0, zr 8 23 18 22 false, zm 9 14 23, .g (.keep [1, 3, 4, 14])]) (.cond (.tmp 14) (.seq (.reg 0 [zk 0 2 48, .g (.keep [2])]) (.ret)) (.seq (.reg 0 [zf 0 25 1 2, zl 1 26 1 25, zf 2 27 1 3, zl 3 28 1 27, zn 4 29 28, .o 5 (.call (some 30) model_counts.id [(.tmp 26), (.tmp 29)]), zq 6 31 30, zm 7 24 31, .g (.keep [3, 4, 24])]) (.cond (.tmp 24) (.seq (.reg 0 [zk 0 2 47, .g (.keep [2])]) (.ret)) (.seq (.reg 0 [zm 0 33 3, zm 1 32 33, .g (.keep [4, 32])]) (.cond (.tmp 32) (.seq (.reg 0 [zk 0 2 44, .g (.keep [2])]) (.ret)) (.seq (.reg 0 [zm 0 35 4, zm 1 34 35, .g (.keep [34])]) (.cond (.tmp 34) (.seq (.reg 0 [zk 0 2 45, .g (.keep [2])]) (.ret)) (.skip)))))))))) (.seq (.reg 0 [zk 0 2 0, .g (.keep [2])]) (.ret))))
def model_goal.rs : List Rs := [.sl 2]
theorem model_goal.ok : isFn Try.prog model_goal.id 36 model_goal.ann model_goal.ir model_goal.rs := ⟨Try.f37, _, Try.func37, rfl, rfl, by kernel_rfl, by kernel_rfl⟩
-- slices.IndexFunc[[]hallmark/api.Con,hallmark/api.Con]
def slices_IndexFunc_Lapi_Con_api_Con.ann : List (Nat × RA) := [(0, rk [0, 1]), (1, rk [0, 1, 7, 8]), (2, rk [0, 1, 7, 8, 9]), (3, rk [0, 1, 5, 7, 8]), (4, rk [0, 1, 5, 7, 8, 16]), (5, rk [4]), (6, rk [0, 1, 7, 8]), (7, rk [4])]
def slices_IndexFunc_Lapi_Con_api_Con.b0 : C := .seq (.reg 0 [za 0 9 .lss 8 7, .g (.keep [0, 1, 7, 8, 9])]) (.seq (.cond (.tmp 9) (.skip) (.exit 0)) (.seq (.block 1 (.seq (.reg 0 [zm 0 10 8, zm 1 5 10, .g (.keep [0, 1, 5, 7, 8])]) (.seq (.reg 0 [zm 0 11 1, zm 1 12 0, zm 2 13 5, zx 3 14 10 12 13, zL 4 15 10 14, .o 5 (.callv (some 16) (.tmp 11) [(.tmp 15)]), .g (.keep [0, 1, 5, 7, 8, 16])]) (.cond (.tmp 16) (.seq (.reg 0 [zm 0 17 5, zm 1 4 17, .g (.keep [4])]) (.ret)) (.skip))))) (.reg 0 [zd 0 18 .add 8 1, zm 1 8 18, .g (.keep [0, 1, 7, 8])])))
def slices_IndexFunc_Lapi_Con_api_Con.ir : C := .seq (.reg 0 [zk 0 4 0, .g (.keep [0, 1])]) (.seq (.seq (.reg 0 [zm 0 6 0, zn 1 7 6, zk 2 8 0, .g (.keep [0, 1, 7, 8])]) (.block 0 (.loop slices_IndexFunc_Lapi_Con_api_Con.b0))) (.seq (.reg 0 [zk 0 4 (-1), .g (.keep [4])]) (.ret)))
def slices_IndexFunc_Lapi_Con_api_Con.rs : List Rs := [.sl 4]
theorem slices_IndexFunc_Lapi_Con_api_Con.ok : isFn Try.prog slices_IndexFunc_Lapi_Con_api_Con.id 19 slices_IndexFunc_Lapi_Con_api_Con.ann slices_IndexFunc_Lapi_Con_api_Con.ir slices_IndexFunc_Lapi_Con_api_Con.rs := ⟨Try.f38, _, Try.func38, rfl, rfl, by kernel_rfl, by kernel_rfl⟩
-- slices.Index[[]int,int]
def slices_Index_Lint_int.ann : List (Nat × RA) := [(0, rk [0, 1]), (1, rk [0, 1, 7, 8]), (2, rk [0, 1, 7, 8, 9]), (3, rk [0, 1, 5, 7, 8]), (4, rk [0, 1, 5, 7, 8, 16]), (5, rk [4]), (6, rk [0, 1, 7, 8]), (7, rk [4])]
def slices_Index_Lint_int.b0 : C := .seq (.reg 0 [za 0 9 .lss 8 7, .g (.keep [0, 1, 7, 8, 9])]) (.seq (.cond (.tmp 9) (.skip) (.exit 0)) (.seq (.block 1 (.seq (.reg 0 [zm 0 10 8, zm 1 5 10, .g (.keep [0, 1, 5, 7, 8])]) (.seq (.reg 0 [zm 0 11 1, zm 1 12 0, zm 2 13 5, zx 3 14 1 12 13, zl 4 15 1 14, za 5 16 .eql 11 15, .g (.keep [0, 1, 5, 7, 8, 16])]) (.cond (.tmp 16) (.seq (.reg 0 [zm 0 17 5, zm 1 4 17, .g (.keep [4])]) (.ret)) (.skip))))) (.reg 0 [zd 0 18 .add 8 1, zm 1 8 18, .g (.keep [0, 1, 7, 8])])))
def slices_Index_Lint_int.ir : C := .seq (.reg 0 [zk 0 4 0, .g (.keep [0, 1])]) (.seq (.seq (.reg 0 [zm 0 6 0, zn 1 7 6, zk 2 8 0, .g (.keep [0, 1, 7, 8])]) (.block 0 (.loop slices_Index_Lint_int.b0))) (.seq (.reg 0 [zk 0 4 (-1), .g (.keep [4])]) (.ret)))
def slices_Index_Lint_int.rs : List Rs := [.sl 4]
theorem slices_Index_Lint_int.ok : isFn Try.prog slices_Index_Lint_int.id 19 slices_Index_Lint_int.ann slices_Index_Lint_int.ir slices_Index_Lint_int.rs := ⟨Try.f39, _, Try.func39, rfl, rfl, by kernel_rfl, by kernel_rfl⟩
-- hallmark/model.isName
def model_isName.ann : List (Nat × RA) := [(0, rk [0]), (1, rk [0, 7]), (2, rk [0, 7, 8, 9]), (3, rk [0, 3, 4, 7]), (4, rk [0, 3, 4, 5, 7]), (5, rk [0, 7, 43]), (6, rk [2]), (7, rk [2])]
def model_isName.b0 : C := .seq (.reg 0 [.o 0 (.nxt (some 8) (.tmp 7)), ze 1 9 8 0, .g (.keep [0, 7, 8, 9])]) (.seq (.cond (.tmp 9) (.skip) (.exit 0)) (.block 1 (.seq (.reg 0 [ze 0 10 8 1, ze 1 11 8 2, zm 2 3 10, zm 3 4 11, .g (.keep [0, 3, 4, 7])]) (.seq (.reg 0 [zm 0 12 4, .o 1 (.lt (some 13) (.bin .geq (.tmp 12) (.const (.int .i32 97)))), zm 2 14 13, ym 3 14 true 15 4, .gd 4 14 true (some 16) (.lt (some 16) (.bin .leq (.tmp 15) (.const (.int .i32 122)))), zr 5 17 14 16 false, zm 6 18 17, ym 7 18 false 19 4, .gd 8 18 false (some 20) (.lt (some 20) (.bin .geq (.tmp 19) (.const (.int .i32 65)))), ym 9 18 false 21 20, ym 10 21 true 22 4, .gd 11 21 true (some 23) (.lt (some 23) (.bin .leq (.tmp 22) (.const (.int .i32 90)))), yr 12 18 false 24 21 23 false, zp 13 25 18 true 24, zm 14 26 25, ym 15 26 false 27 4, .gd 16 26 false (some 28) (.lt (some 28) (.bin .eql (.tmp 27) (.const (.int .i32 95)))), zp 17 29 26 true 28, zm 18 5 29, .g (.keep [0, 3, 4, 5, 7])]) (.seq (.reg 0 [zm 0 30 5, zq 1 31 30, zm 2 32 31, ym 3 32 true 33 3, yd 4 32 true 34 .eql 33 0, ym 5 32 true 35 34, ym 6 35 false 36 4, .gd 7 35 false (some 37) (.lt (some 37) (.bin .lss (.tmp 36) (.const (.int .i32 48)))), yp 8 32 true 38 35 true 37, ym 9 32 true 39 38, ym 10 39 false 40 4, .gd 11 39 false (some 41) (.lt (some 41) (.bin .gtr (.tmp 40) (.const (.int .i32 57)))), yp 12 32 true 42 39 true 41, zr 13 43 32 42 false, .g (.keep [0, 7, 43])]) (.cond (.tmp 43) (.seq (.reg 0 [zb 0 2 false, .g (.keep [2])]) (.ret)) (.skip)))))))
def model_isName.ir : C := .seq (.reg 0 [zb 0 2 false, .g (.keep [0])]) (.seq (.seq (.reg 1 [zm 0 6 0, .o 1 (.rng (some 7) 0 (.tmp 6)), .g (.keep [0, 7])]) (.block 0 (.loop model_isName.b0))) (.seq (.reg 0 [zm 0 44 0, .o 1 (.lt (some 45) (.lenStr (.tmp 44))), zd 2 46 .geq 45 1, zm 3 47 46, ym 4 47 true 48 0, .gd 5 47 true (some 49) (.lt (some 49) (.lenStr (.tmp 48))), yd 6 47 true 50 .leq 49 16, zr 7 51 47 50 false, zm 8 2 51, .g (.keep [2])]) (.ret)))
def model_isName.rs : List Rs := [.sl 2]
theorem model_isName.ok : isFn Try.prog model_isName.id 52 model_isName.ann model_isName.ir model_isName.rs := ⟨Try.f40, _, Try.func40, rfl, rfl, by kernel_rfl, by kernel_rfl⟩
-- slices.ContainsFunc[[]hallmark/api.Var,hallmark/api.Var]
def slices_ContainsFunc_Lapi_Var_api_Var.ann : List (Nat × RA) := [(0, rk [0, 1]), (1, rk [4])]
def slices_ContainsFunc_Lapi_Var_api_Var.ir : C := .seq (.reg 0 [zb 0 4 false, .g (.keep [0, 1])]) (.seq (.reg 0 [zm 0 5 0, zm 1 6 1, .o 2 (.call (some 7) slices_IndexFunc_Lapi_Var_api_Var.id [(.tmp 5), (.tmp 6)]), zd 3 8 .geq 7 0, zm 4 4 8, .g (.keep [4])]) (.ret))
def slices_ContainsFunc_Lapi_Var_api_Var.rs : List Rs := [.sl 4]
theorem slices_ContainsFunc_Lapi_Var_api_Var.ok : isFn Try.prog slices_ContainsFunc_Lapi_Var_api_Var.id 9 slices_ContainsFunc_Lapi_Var_api_Var.ann slices_ContainsFunc_Lapi_Var_api_Var.ir slices_ContainsFunc_Lapi_Var_api_Var.rs := ⟨Try.f41, _, Try.func41, rfl, rfl, by kernel_rfl, by kernel_rfl⟩
-- hallmark/model.variable$1
def model_variable_1.ann : List (Nat × RA) := [(0, rk [1, 2]), (1, rk [3])]
def model_variable_1.ir : C := .seq (.reg 1 [.o 0 (.box (some 2) 0 3 (.tmp 0)), zb 1 3 false, .g (.keep [1, 2])]) (.seq (.reg 0 [zf 0 4 2 0, zl 1 5 1 4, zf 2 6 1 0, zl 3 7 1 6, za 4 8 .eql 5 7, zm 5 3 8, .g (.keep [3])]) (.ret))
def model_variable_1.rs : List Rs := [.sl 3]
theorem model_variable_1.ok : isFn Try.prog model_variable_1.id 9 model_variable_1.ann model_variable_1.ir model_variable_1.rs := ⟨Try.f42, _, Try.func42, rfl, rfl, by kernel_rfl, by kernel_rfl⟩
-- hallmark/model.within
def model_within.ann : List (Nat × RA) := [(0, rk [0, 1]), (1, rk [4])]
def model_within.ir : C := .seq (.reg 0 [zb 0 4 false, .g (.keep [0, 1])]) (.seq (.reg 0 [zm 0 5 0, zm 1 6 1, .o 2 (.lt (some 7) (.un .neg (.tmp 6))), za 3 8 .geq 5 7, zm 4 9 8, ym 5 9 true 10 0, ym 6 9 true 11 1, ya 7 9 true 12 .leq 10 11, zr 8 13 9 12 false, zm 9 4 13, .g (.keep [4])]) (.ret))
def model_within.rs : List Rs := [.sl 4]
theorem model_within.ok : isFn Try.prog model_within.id 14 model_within.ann model_within.ir model_within.rs := ⟨Try.f43, _, Try.func43, rfl, rfl, by kernel_rfl, by kernel_rfl⟩
-- hallmark/model.kinds
def model_kinds.ann : List (Nat × RA) := [(0, rk []), (1, rk [0])]
def model_kinds.ir : C := .seq (.reg 0 [.o 0 (.lt (some 0) (.mov (.const (.map none)))), .g (.keep [])]) (.seq (.reg 1 [.o 0 (.mkm (some 1) 0), .o 1 (.lt (some 2) (.build [.a (.bool false), .a (.bool false), .a (.bool false), .a (.bool false), .a (.bool false), .a (.bool false), .a (.bool false), .a (.bool false), .a (.bool false), .a (.nilFunc)] [(0, 1, (.const (.bool true))), (6, 1, (.const (.bool true))), (7, 1, (.const (.bool true))), (9, 1, (.func model_lin.id))])), .o 2 (.mup [] .i64 (.tmp 1) (.const (.int .i64 1)) (.tmp 2)), .o 3 (.lt (some 3) (.build [.a (.bool false), .a (.bool false), .a (.bool false), .a (.bool false), .a (.bool false), .a (.bool false), .a (.bool false), .a (.bool false), .a (.bool false), .a (.nilFunc)] [(4, 1, (.const (.bool true))), (5, 1, (.const (.bool true))), (6, 1, (.const (.bool true))), (9, 1, (.func model_kinds_1.id))])), .o 4 (.mup [] .i64 (.tmp 1) (.const (.int .i64 2)) (.tmp 3)), .o 5 (.lt (some 4) (.build [.a (.bool false), .a (.bool false), .a (.bool false), .a (.bool false), .a (.bool false), .a (.bool false), .a (.bool false), .a (.bool false), .a (.bool false), .a (.nilFunc)] [(1, 1, (.const (.bool true))), (9, 1, (.func model_allDiff.id))])), .o 6 (.mup [] .i64 (.tmp 1) (.const (.int .i64 3)) (.tmp 4)), .o 7 (.lt (some 5) (.build [.a (.bool false), .a (.bool false), .a (.bool false), .a (.bool false), .a (.bool false), .a (.bool false), .a (.bool false), .a (.bool false), .a (.bool false), .a (.nilFunc)] [(4, 1, (.const (.bool true))), (5, 1, (.const (.bool true))), (2, 1, (.const (.bool true))), (9, 1, (.func model_element.id))])), .o 8 (.mup [] .i64 (.tmp 1) (.const (.int .i64 4)) (.tmp 5)), .o 9 (.lt (some 6) (.build [.a (.bool false), .a (.bool false), .a (.bool false), .a (.bool false), .a (.bool false), .a (.bool false), .a (.bool false), .a (.bool false), .a (.bool false), .a (.nilFunc)] [(5, 1, (.const (.bool true))), (1, 1, (.const (.bool true))), (9, 1, (.func model_kinds_2.id))])), .o 10 (.mup [] .i64 (.tmp 1) (.const (.int .i64 5)) (.tmp 6)), .o 11 (.lt (some 7) (.build [.a (.bool false), .a (.bool false), .a (.bool false), .a (.bool false), .a (.bool false), .a (.bool false), .a (.bool false), .a (.bool false), .a (.bool false), .a (.nilFunc)] [(5, 1, (.const (.bool true))), (1, 1, (.const (.bool true))), (9, 1, (.func model_kinds_3.id))])), .o 12 (.mup [] .i64 (.tmp 1) (.const (.int .i64 6)) (.tmp 7)), .o 13 (.lt (some 8) (.build [.a (.bool false), .a (.bool false), .a (.bool false), .a (.bool false), .a (.bool false), .a (.bool false), .a (.bool false), .a (.bool false), .a (.bool false), .a (.nilFunc)] [(4, 1, (.const (.bool true))), (0, 1, (.const (.bool true))), (6, 1, (.const (.bool true))), (9, 1, (.func model_reif.id))])), .o 14 (.mup [] .i64 (.tmp 1) (.const (.int .i64 7)) (.tmp 8)), .o 15 (.lt (some 9) (.build [.a (.bool false), .a (.bool false), .a (.bool false), .a (.bool false), .a (.bool false), .a (.bool false), .a (.bool false), .a (.bool false), .a (.bool false), .a (.nilFunc)] [(1, 1, (.const (.bool true))), (3, 1, (.const (.bool true))), (9, 1, (.func model_table.id))])), .o 16 (.mup [] .i64 (.tmp 1) (.const (.int .i64 8)) (.tmp 9)), .o 17 (.lt (some 10) (.build [.a (.bool false), .a (.bool false), .a (.bool false), .a (.bool false), .a (.bool false), .a (.bool false), .a (.bool false), .a (.bool false), .a (.bool false), .a (.nilFunc)] [(1, 1, (.const (.bool true))), (6, 1, (.const (.bool true))), (7, 1, (.const (.bool true))), (8, 1, (.const (.bool true))), (9, 1, (.func model_count.id))])), .o 18 (.mup [] .i64 (.tmp 1) (.const (.int .i64 9)) (.tmp 10)), zm 19 11 1, zm 20 0 11, .g (.keep [0])]) (.ret))
def model_kinds.rs : List Rs := [.sl 0]
theorem model_kinds.ok : isFn Try.prog model_kinds.id 12 model_kinds.ann model_kinds.ir model_kinds.rs := ⟨Try.f44, _, Try.func44, rfl, rfl, by kernel_rfl, by kernel_rfl⟩
-- hallmark/model.terms
def model_terms.ann : List (Nat × RA) := [(0, rk [0, 1, 4, 5]), (1, rk [1, 4, 5, 8, 9, 10]), (2, rk [1, 4, 5, 8, 9, 10, 11]), (3, rk [1, 4, 5, 7, 8, 9, 10]), (4, rk [1, 4, 5, 7, 8, 9, 10]), (5, rk [1, 4, 5, 8, 9, 10]), (6, rk [1, 4, 5, 8, 9, 10]), (7, rk [4, 5])]
def model_terms.b0 : C := .seq (.reg 0 [za 0 11 .lss 10 9, .g (.keep [1, 4, 5, 8, 9, 10, 11])]) (.seq (.cond (.tmp 11) (.skip) (.exit 0)) (.seq (.block 1 (.seq (.reg 1 [zx 0 12 2 8 10, zL 1 13 2 12, .o 2 (.alloc (some 7) 0 2 [.a (.int .i64 0), .a (.int .i64 0)]), .o 3 (.store [] 2 (.tmp 7) (.tmp 13)), .g (.keep [1, 4, 5, 7, 8, 9, 10])]) (.seq (.reg 0 [zm 0 14 4, zm 1 15 14, yf 2 15 false 16 7 1, yl 3 15 false 17 1 16, yd 4 15 false 18 .lss 17 0, zp 5 19 15 true 18, zm 6 20 19, yf 7 20 false 21 7 1, yl 8 20 false 22 1 21, ym 9 20 false 23 1, ya 10 20 false 24 .geq 22 23, zp 11 25 20 true 24, zm 12 4 25, .g (.keep [1, 4, 5, 7, 8, 9, 10])]) (.reg 0 [zm 0 26 5, zm 1 27 26, yf 2 27 false 28 7 0, yl 3 27 false 29 1 28, yd 4 27 false 30 .eql 29 0, zp 5 31 27 true 30, zm 6 32 31, yf 7 32 false 33 7 0, yl 8 32 false 34 1 33, .gd 9 32 false (some 35) (.call (some 35) model_within.id [(.tmp 34), (.const (.int .i64 1000000))]), yq 10 32 false 36 35, zp 11 37 32 true 36, zm 12 5 37, .g (.keep [1, 4, 5, 8, 9, 10])])))) (.reg 0 [zd 0 38 .add 10 1, zm 1 10 38, .g (.keep [1, 4, 5, 8, 9, 10])])))
def model_terms.ir : C := .seq (.reg 0 [zb 0 4 false, zb 1 5 false, .g (.keep [0, 1, 4, 5])]) (.seq (.seq (.reg 0 [zm 0 8 0, zn 1 9 8, zk 2 10 0, .g (.keep [1, 4, 5, 8, 9, 10])]) (.block 0 (.loop model_terms.b0))) (.seq (.reg 0 [zm 0 39 4, zm 1 40 5, zm 2 4 39, zm 3 5 40, .g (.keep [4, 5])]) (.ret)))
def model_terms.rs : List Rs := [.sl 4, .sl 5]
theorem model_terms.ok : isFn Try.prog model_terms.id 41 model_terms.ann model_terms.ir model_terms.rs := ⟨Try.f45, _, Try.func45, rfl, rfl, by kernel_rfl, by kernel_rfl⟩
-- hallmark/model.con$1
def model_con_1.ann : List (Nat × RA) := [(0, rk [0, 1]), (1, rk [3])]
def model_con_1.ir : C := .seq (.reg 0 [zb 0 3 false, .g (.keep [0, 1])]) (.seq (.reg 0 [zm 0 4 0, zd 1 5 .lss 4 0, zm 2 6 5, ym 3 6 false 7 0, yl 4 6 false 8 1 1, ya 5 6 false 9 .geq 7 8, zp 6 10 6 true 9, zm 7 3 10, .g (.keep [3])]) (.ret))
def model_con_1.rs : List Rs := [.sl 3]
theorem model_con_1.ok : isFn Try.prog model_con_1.id 11 model_con_1.ann model_con_1.ir model_con_1.rs := ⟨Try.f46, _, Try.func46, rfl, rfl, by kernel_rfl, by kernel_rfl⟩
-- hallmark/model.field
def model_field.ann : List (Nat × RA) := [(0, rk [2, 3]), (1, rk [2, 3, 5]), (2, rk [2, 3, 5, 18]), (3, rk [2, 3, 5]), (4, rk [2, 3, 5, 21]), (5, rk [2, 3, 5]), (6, rk [2, 3, 5, 24]), (7, rk [2, 3, 5]), (8, rk [2, 3, 5, 27]), (9, rk [2, 3, 5]), (10, rk [2, 3, 5, 30]), (11, rk [2, 3, 5]), (12, rk [4])]
def model_field.ir : C := .seq (.reg 2 [.o 0 (.box (some 2) 0 10 (.tmp 0)), .o 1 (.box (some 3) 1 10 (.tmp 1)), zb 2 4 false, .g (.keep [2, 3])]) (.seq (.reg 1 [zf 0 6 2 1, zl 1 7 1 6, zf 2 8 2 3, zl 3 9 1 8, zf 4 10 2 4, zl 5 11 1 10, zf 6 12 2 5, zl 7 13 1 12, zf 8 14 2 6, zl 9 15 1 14, .o 10 (.lt (some 16) (.build [.a (.int .i64 0), .a (.int .i64 0), .a (.int .i64 0), .a (.int .i64 0), .a (.int .i64 0)] [(0, 1, (.tmp 7)), (1, 1, (.tmp 9)), (2, 1, (.tmp 11)), (3, 1, (.tmp 13)), (4, 1, (.tmp 15))])), .o 11 (.alloc (some 5) 0 5 [.a (.int .i64 0), .a (.int .i64 0), .a (.int .i64 0), .a (.int .i64 0), .a (.int .i64 0)]), .o 12 (.store [] 5 (.tmp 5) (.tmp 16)), .g (.keep [2, 3, 5])]) (.seq (.seq (.reg 0 [zf 0 17 3 7, zl 1 18 1 17, .g (.keep [2, 3, 5, 18])]) (.cond (.tmp 18) (.reg 0 [zf 0 19 5 0, .o 1 (.store [] 1 (.tmp 19) (.const (.int .i64 0))), .g (.keep [2, 3, 5])]) (.skip))) (.seq (.seq (.reg 0 [zf 0 20 3 8, zl 1 21 1 20, .g (.keep [2, 3, 5, 21])]) (.cond (.tmp 21) (.reg 0 [zf 0 22 5 2, .o 1 (.store [] 1 (.tmp 22) (.const (.int .i64 0))), .g (.keep [2, 3, 5])]) (.skip))) (.seq (.seq (.reg 0 [zf 0 23 3 6, zl 1 24 1 23, .g (.keep [2, 3, 5, 24])]) (.cond (.tmp 24) (.reg 0 [zf 0 25 5 1, .o 1 (.store [] 1 (.tmp 25) (.const (.int .i64 0))), .g (.keep [2, 3, 5])]) (.skip))) (.seq (.seq (.reg 0 [zf 0 26 3 4, zl 1 27 1 26, .g (.keep [2, 3, 5, 27])]) (.cond (.tmp 27) (.reg 0 [zf 0 28 5 3, .o 1 (.store [] 1 (.tmp 28) (.const (.int .i64 0))), .g (.keep [2, 3, 5])]) (.skip))) (.seq (.seq (.reg 0 [zf 0 29 3 5, zl 1 30 1 29, .g (.keep [2, 3, 5, 30])]) (.cond (.tmp 30) (.reg 0 [zf 0 31 5 4, .o 1 (.store [] 1 (.tmp 31) (.const (.int .i64 0))), .g (.keep [2, 3, 5])]) (.skip))) (.seq (.reg 0 [zL 0 32 5 5, .o 1 (.lt (some 33) (.build [.a (.int .i64 0), .a (.int .i64 0), .a (.int .i64 0), .a (.int .i64 0), .a (.int .i64 0)] [])), .o 2 (.lt (some 34) (.eqD true [(0, 0), (1, 0), (2, 0), (3, 0), (4, 0)] (.tmp 32) (.tmp 33))), zm 3 35 34, yf 4 35 false 36 3 0, yl 5 35 false 37 1 36, yq 6 35 false 38 37, ym 7 35 false 39 38, yf 8 39 true 40 2 2, yl 9 39 true 41 1 40, yn 10 39 true 42 41, yd 11 39 true 43 .gtr 42 0, yr 12 35 false 44 39 43 false, zp 13 45 35 true 44, zm 14 46 45, yf 15 46 false 47 3 1, yl 16 46 false 48 1 47, yq 17 46 false 49 48, ym 18 46 false 50 49, yf 19 50 true 51 2 7, yl 20 50 true 52 1 51, yn 21 50 true 53 52, yd 22 50 true 54 .gtr 53 0, yr 23 46 false 55 50 54 false, zp 24 56 46 true 55, zm 25 57 56, yf 26 57 false 58 3 2, yl 27 57 false 59 1 58, yq 28 57 false 60 59, ym 29 57 false 61 60, yf 30 61 true 62 2 8, yl 31 61 true 63 1 62, yn 32 61 true 64 63, yd 33 61 true 65 .gtr 64 0, yr 34 57 false 66 61 65 false, zp 35 67 57 true 66, zm 36 68 67, yf 37 68 false 69 3 3, yl 38 68 false 70 1 69, yq 39 68 false 71 70, ym 40 68 false 72 71, yf 41 72 true 73 2 9, yl 42 72 true 74 1 73, yn 43 72 true 75 74, yd 44 72 true 76 .gtr 75 0, yr 45 68 false 77 72 76 false, zp 46 78 68 true 77, zm 47 4 78, .g (.keep [4])]) (.ret))))))))
def model_field.rs : List Rs := [.sl 4]
theorem model_field.ok : isFn Try.prog model_field.id 79 model_field.ann model_field.ir model_field.rs := ⟨Try.f47, _, Try.func47, rfl, rfl, by kernel_rfl, by kernel_rfl⟩
-- hallmark/model.counts
def model_counts.ann : List (Nat × RA) := [(0, rk [0, 1]), (1, rk [4])]
def model_counts.ir : C := .seq (.reg 0 [zb 0 4 false, .g (.keep [0, 1])]) (.seq (.reg 0 [zm 0 5 0, zq 1 6 5, zm 2 7 6, ym 3 7 false 8 1, yd 4 7 false 9 .geq 8 1, ym 5 7 false 10 9, ym 6 10 true 11 1, yd 7 10 true 12 .leq 11 64, yr 8 7 false 13 10 12 false, zp 9 14 7 true 13, zm 10 4 14, .g (.keep [4])]) (.ret))
def model_counts.rs : List Rs := [.sl 4]
theorem model_counts.ok : isFn Try.prog model_counts.id 15 model_counts.ann model_counts.ir model_counts.rs := ⟨Try.f48, _, Try.func48, rfl, rfl, by kernel_rfl, by kernel_rfl⟩
-- hallmark/model.wide
def model_wide.ann : List (Nat × RA) := [(0, rk [2, 3]), (1, rp [4] [(18, [1000001])])]
def model_wide.ir : C := .seq (.reg 2 [.o 0 (.box (some 2) 0 10 (.tmp 0)), .o 1 (.box (some 3) 1 10 (.tmp 1)), zb 2 4 false, .g (.keep [2, 3])]) (.seq (.reg 0 [zf 0 5 3 3, zl 1 6 1 5, zm 2 7 6, yf 3 7 true 8 2 7, yl 4 7 true 9 1 8, yn 5 7 true 10 9, yd 6 7 true 11 .gtr 10 8, ym 7 7 true 12 11, yf 8 12 false 13 2 9, yl 9 12 false 14 1 13, yn 10 12 false 15 14, .gd 11 12 false (some 16) (.call (some 16) model_counts.id [(.const (.bool true)), (.tmp 15)]), yq 12 12 false 17 16, yp 13 7 true 18 12 true 17, ym 14 7 true 19 18, yf 15 19 false 20 2 9, yl 16 19 false 21 1 20, .gd 17 19 false (some 22) (.lt (some 22) (.mkfn (.func model_wide_1.id) [] [(.tmp 2)])), .gd 18 19 false (some 23) (.callb (some 23) (.func slices_ContainsFunc_LLint_Lint.id) [(.tmp 21), (.tmp 22)]), yp 19 7 true 24 19 true 23, zr 20 25 7 24 false, zm 21 4 25, .g (.keep [4])]) (.ret))
def model_wide.rs : List Rs := [.sl 4]
theorem model_wide.ok : isFn Try.prog model_wide.id 26 model_wide.ann model_wide.ir model_wide.rs := ⟨Try.f49, _, Try.func49, rfl, rfl, by kernel_rfl, by kernel_rfl⟩
-- slices.ContainsFunc[[]int,int]
def slices_ContainsFunc_Lint_int.ann : List (Nat × RA) := [(0, rk [0, 1]), (1, rk [4])]
def slices_ContainsFunc_Lint_int.ir : C := .seq (.reg 0 [zb 0 4 false, .g (.keep [0, 1])]) (.seq (.reg 0 [zm 0 5 0, zm 1 6 1, .o 2 (.call (some 7) slices_IndexFunc_Lint_int.id [(.tmp 5), (.tmp 6)]), zd 3 8 .geq 7 0, zm 4 4 8, .g (.keep [4])]) (.ret))
def slices_ContainsFunc_Lint_int.rs : List Rs := [.sl 4]
theorem slices_ContainsFunc_Lint_int.ok : isFn Try.prog slices_ContainsFunc_Lint_int.id 9 slices_ContainsFunc_Lint_int.ann slices_ContainsFunc_Lint_int.ir slices_ContainsFunc_Lint_int.rs := ⟨Try.f50, _, Try.func50, rfl, rfl, by kernel_rfl, by kernel_rfl⟩
-- hallmark/model.great
def model_great.ann : List (Nat × RA) := [(0, rk [0]), (1, rk [2])]
def model_great.ir : C := .seq (.reg 0 [zb 0 2 false, .g (.keep [0])]) (.seq (.reg 0 [zm 0 3 0, .o 1 (.call (some 4) slices_ContainsFunc_Lint_int.id [(.tmp 3), (.func model_great_1.id)]), zm 2 2 4, .g (.keep [2])]) (.ret))
def model_great.rs : List Rs := [.sl 2]
theorem model_great.ok : isFn Try.prog model_great.id 5 model_great.ann model_great.ir model_great.rs := ⟨Try.f51, _, Try.func51, rfl, rfl, by kernel_rfl, by kernel_rfl⟩
-- slices.ContainsFunc[[][]int,[]int]
def slices_ContainsFunc_LLint_Lint.ann : List (Nat × RA) := [(0, rk [0, 1]), (1, rk [4])]
def slices_ContainsFunc_LLint_Lint.ir : C := .seq (.reg 0 [zb 0 4 false, .g (.keep [0, 1])]) (.seq (.reg 0 [zm 0 5 0, zm 1 6 1, .o 2 (.call (some 7) slices_IndexFunc_LLint_Lint.id [(.tmp 5), (.tmp 6)]), zd 3 8 .geq 7 0, zm 4 4 8, .g (.keep [4])]) (.ret))
def slices_ContainsFunc_LLint_Lint.rs : List Rs := [.sl 4]
theorem slices_ContainsFunc_LLint_Lint.ok : isFn Try.prog slices_ContainsFunc_LLint_Lint.id 9 slices_ContainsFunc_LLint_Lint.ann slices_ContainsFunc_LLint_Lint.ir slices_ContainsFunc_LLint_Lint.rs := ⟨Try.f52, _, Try.func52, rfl, rfl, by kernel_rfl, by kernel_rfl⟩
-- slices.IndexFunc[[]hallmark/api.Var,hallmark/api.Var]
def slices_IndexFunc_Lapi_Var_api_Var.ann : List (Nat × RA) := [(0, rk [0, 1]), (1, rk [0, 1, 7, 8]), (2, rk [0, 1, 7, 8, 9]), (3, rk [0, 1, 5, 7, 8]), (4, rk [0, 1, 5, 7, 8, 16]), (5, rk [4]), (6, rk [0, 1, 7, 8]), (7, rk [4])]
def slices_IndexFunc_Lapi_Var_api_Var.b0 : C := .seq (.reg 0 [za 0 9 .lss 8 7, .g (.keep [0, 1, 7, 8, 9])]) (.seq (.cond (.tmp 9) (.skip) (.exit 0)) (.seq (.block 1 (.seq (.reg 0 [zm 0 10 8, zm 1 5 10, .g (.keep [0, 1, 5, 7, 8])]) (.seq (.reg 0 [zm 0 11 1, zm 1 12 0, zm 2 13 5, zx 3 14 3 12 13, zL 4 15 3 14, .o 5 (.callv (some 16) (.tmp 11) [(.tmp 15)]), .g (.keep [0, 1, 5, 7, 8, 16])]) (.cond (.tmp 16) (.seq (.reg 0 [zm 0 17 5, zm 1 4 17, .g (.keep [4])]) (.ret)) (.skip))))) (.reg 0 [zd 0 18 .add 8 1, zm 1 8 18, .g (.keep [0, 1, 7, 8])])))
def slices_IndexFunc_Lapi_Var_api_Var.ir : C := .seq (.reg 0 [zk 0 4 0, .g (.keep [0, 1])]) (.seq (.seq (.reg 0 [zm 0 6 0, zn 1 7 6, zk 2 8 0, .g (.keep [0, 1, 7, 8])]) (.block 0 (.loop slices_IndexFunc_Lapi_Var_api_Var.b0))) (.seq (.reg 0 [zk 0 4 (-1), .g (.keep [4])]) (.ret)))
def slices_IndexFunc_Lapi_Var_api_Var.rs : List Rs := [.sl 4]
theorem slices_IndexFunc_Lapi_Var_api_Var.ok : isFn Try.prog slices_IndexFunc_Lapi_Var_api_Var.id 19 slices_IndexFunc_Lapi_Var_api_Var.ann slices_IndexFunc_Lapi_Var_api_Var.ir slices_IndexFunc_Lapi_Var_api_Var.rs := ⟨Try.f53, _, Try.func53, rfl, rfl, by kernel_rfl, by kernel_rfl⟩
-- hallmark/model.lin
-- hallmark/model.kinds$1
-- hallmark/model.allDiff
-- hallmark/model.element
-- hallmark/model.kinds$2
-- slices.Max[[]int,int]
-- hallmark/model.each
-- hallmark/model.kinds$3
-- slices.Min[[]int,int]
-- hallmark/model.reif
-- hallmark/model.table
-- hallmark/model.count
-- hallmark/model.wide$1
def model_wide_1.ann : List (Nat × RA) := [(0, rk [0, 1]), (1, rk [3])]
def model_wide_1.ir : C := .seq (.reg 0 [zb 0 3 false, .g (.keep [0, 1])]) (.seq (.reg 0 [zm 0 4 0, zn 1 5 4, zf 2 6 1 7, zl 3 7 1 6, zn 4 8 7, za 5 9 .neq 5 8, zm 6 3 9, .g (.keep [3])]) (.ret))
def model_wide_1.rs : List Rs := [.sl 3]
theorem model_wide_1.ok : isFn Try.prog model_wide_1.id 10 model_wide_1.ann model_wide_1.ir model_wide_1.rs := ⟨Try.f66, _, Try.func66, rfl, rfl, by kernel_rfl, by kernel_rfl⟩
-- slices.IndexFunc[[]int,int]
def slices_IndexFunc_Lint_int.ann : List (Nat × RA) := [(0, rk [0, 1]), (1, rk [0, 1, 7, 8]), (2, rk [0, 1, 7, 8, 9]), (3, rk [0, 1, 5, 7, 8]), (4, rk [0, 1, 5, 7, 8, 16]), (5, rk [4]), (6, rk [0, 1, 7, 8]), (7, rk [4])]
def slices_IndexFunc_Lint_int.b0 : C := .seq (.reg 0 [za 0 9 .lss 8 7, .g (.keep [0, 1, 7, 8, 9])]) (.seq (.cond (.tmp 9) (.skip) (.exit 0)) (.seq (.block 1 (.seq (.reg 0 [zm 0 10 8, zm 1 5 10, .g (.keep [0, 1, 5, 7, 8])]) (.seq (.reg 0 [zm 0 11 1, zm 1 12 0, zm 2 13 5, zx 3 14 1 12 13, zl 4 15 1 14, .o 5 (.callv (some 16) (.tmp 11) [(.tmp 15)]), .g (.keep [0, 1, 5, 7, 8, 16])]) (.cond (.tmp 16) (.seq (.reg 0 [zm 0 17 5, zm 1 4 17, .g (.keep [4])]) (.ret)) (.skip))))) (.reg 0 [zd 0 18 .add 8 1, zm 1 8 18, .g (.keep [0, 1, 7, 8])])))
def slices_IndexFunc_Lint_int.ir : C := .seq (.reg 0 [zk 0 4 0, .g (.keep [0, 1])]) (.seq (.seq (.reg 0 [zm 0 6 0, zn 1 7 6, zk 2 8 0, .g (.keep [0, 1, 7, 8])]) (.block 0 (.loop slices_IndexFunc_Lint_int.b0))) (.seq (.reg 0 [zk 0 4 (-1), .g (.keep [4])]) (.ret)))
def slices_IndexFunc_Lint_int.rs : List Rs := [.sl 4]
theorem slices_IndexFunc_Lint_int.ok : isFn Try.prog slices_IndexFunc_Lint_int.id 19 slices_IndexFunc_Lint_int.ann slices_IndexFunc_Lint_int.ir slices_IndexFunc_Lint_int.rs := ⟨Try.f67, _, Try.func67, rfl, rfl, by kernel_rfl, by kernel_rfl⟩
-- hallmark/model.great$1
def model_great_1.ann : List (Nat × RA) := [(0, rk [0]), (1, rk [2])]
def model_great_1.ir : C := .seq (.reg 0 [zb 0 2 false, .g (.keep [0])]) (.seq (.reg 0 [zm 0 3 0, .o 1 (.call (some 4) model_within.id [(.tmp 3), (.const (.int .i64 1000000000))]), zq 2 5 4, zm 3 2 5, .g (.keep [2])]) (.ret))
def model_great_1.rs : List Rs := [.sl 2]
theorem model_great_1.ok : isFn Try.prog model_great_1.id 6 model_great_1.ann model_great_1.ir model_great_1.rs := ⟨Try.f68, _, Try.func68, rfl, rfl, by kernel_rfl, by kernel_rfl⟩
-- slices.IndexFunc[[][]int,[]int]
def slices_IndexFunc_LLint_Lint.ann : List (Nat × RA) := [(0, rk [0, 1]), (1, rk [0, 1, 7, 8]), (2, rk [0, 1, 7, 8, 9]), (3, rk [0, 1, 5, 7, 8]), (4, rk [0, 1, 5, 7, 8, 16]), (5, rk [4]), (6, rk [0, 1, 7, 8]), (7, rk [4])]
def slices_IndexFunc_LLint_Lint.b0 : C := .seq (.reg 0 [za 0 9 .lss 8 7, .g (.keep [0, 1, 7, 8, 9])]) (.seq (.cond (.tmp 9) (.skip) (.exit 0)) (.seq (.block 1 (.seq (.reg 0 [zm 0 10 8, zm 1 5 10, .g (.keep [0, 1, 5, 7, 8])]) (.seq (.reg 0 [zm 0 11 1, zm 1 12 0, zm 2 13 5, zx 3 14 1 12 13, zl 4 15 1 14, .o 5 (.callv (some 16) (.tmp 11) [(.tmp 15)]), .g (.keep [0, 1, 5, 7, 8, 16])]) (.cond (.tmp 16) (.seq (.reg 0 [zm 0 17 5, zm 1 4 17, .g (.keep [4])]) (.ret)) (.skip))))) (.reg 0 [zd 0 18 .add 8 1, zm 1 8 18, .g (.keep [0, 1, 7, 8])])))
def slices_IndexFunc_LLint_Lint.ir : C := .seq (.reg 0 [zk 0 4 0, .g (.keep [0, 1])]) (.seq (.seq (.reg 0 [zm 0 6 0, zn 1 7 6, zk 2 8 0, .g (.keep [0, 1, 7, 8])]) (.block 0 (.loop slices_IndexFunc_LLint_Lint.b0))) (.seq (.reg 0 [zk 0 4 (-1), .g (.keep [4])]) (.ret)))
def slices_IndexFunc_LLint_Lint.rs : List Rs := [.sl 4]
theorem slices_IndexFunc_LLint_Lint.ok : isFn Try.prog slices_IndexFunc_LLint_Lint.id 19 slices_IndexFunc_LLint_Lint.ann slices_IndexFunc_LLint_Lint.ir slices_IndexFunc_LLint_Lint.rs := ⟨Try.f69, _, Try.func69, rfl, rfl, by kernel_rfl, by kernel_rfl⟩
-- hallmark/model.is
-- hallmark/model.sum
-- slices.Compact[[]int,int]
-- hallmark/model.table$1
-- slices.Equal[[]int,int]
end Go.Abs.G

/- Objects that own what their cells' slices lie in: taken apart, put together. -/
namespace Go.Abs
set_option linter.unusedVariables false

mutual
def Ce.ids : Ce → List Nat
  | .v x => x.ids
  | .n _ rows => Ce.idsR rows
def Ce.idsL : List Ce → List Nat
  | [] => []
  | x :: l => x.ids ++ Ce.idsL l
def Ce.idsR : List (List Ce) → List Nat
  | [] => []
  | r :: l => Ce.idsL r ++ Ce.idsR l
end

theorem Ce.idsL_mem {l : List Ce} {j k : Nat} {x : Ce} (h : l[j]? = some x) (hk : k ∈ x.ids) : k ∈ Ce.idsL l := by
  induction l generalizing j with
  | nil => simp at h
  | cons y l ih =>
    simp only [Ce.idsL, List.mem_append]
    cases j with
    | zero => simp at h; subst h; exact .inl hk
    | succ j => exact .inr (ih (by simpa using h))
theorem Ce.idsR_mem {l : List (List Ce)} {i k : Nat} {r : List Ce} (h : l[i]? = some r) (hk : k ∈ Ce.idsL r) : k ∈ Ce.idsR l := by
  induction l generalizing i with
  | nil => simp at h
  | cons y l ih =>
    simp only [Ce.idsR, List.mem_append]
    cases i with
    | zero => simp at h; subst h; exact .inl hk
    | succ i => exact .inr (ih (by simpa using h))

theorem only_sub {c : Cx} {refs refs' : List Nat} {v : Value} {x : V} (h : RV (c.only refs) v x) (hs : ∀ k ∈ x.ids, k ∈ refs') : RV (c.only refs') v x :=
  (h.onlyOf refs' hs).mono ⟨Nat.le_refl _, fun _ _ hn => ⟨rfl, hn⟩, fun k hl => ⟨hl.1, hl.2.2⟩, fun _ _ _ e => .inl e⟩

theorem TR.refs {c : Cx} {refs refs' : List Nat} {S : Nat → Prop} {u : Value} {x : Ce} (h : TR c refs S u x) (hs : ∀ k ∈ x.ids, k ∈ refs') : TR c refs' S u x := by
  induction h with
  | v h1 h => exact .v h1 (only_sub h fun k hk => hs k (by simpa only [Ce.ids] using hk))
  | nil => exact .nil
  | n had cs E g T hb hcap hsz hlen hg hr hT hS hd hd2 ih =>
    exact .n had cs E g T hb hcap hsz hlen hg (fun i row hi j x hj => ih i row hi j x hj fun k hk => hs k (by simp only [Ce.ids]; exact Ce.idsR_mem hi (Ce.idsL_mem hj hk))) hT hS hd hd2

theorem TR.inv {c : Cx} {refs : List Nat} {S : Nat → Prop} {ad : Addr} {n cap es : Nat} {rows : List (List Ce)} (h : TR c refs S (.slice (some ad) n cap) (.n es rows)) (hne : rows ≠ [] ∨ ∃ b, S b) :
    ∃ (b o : Nat) (cs : Array Value) (E : TypeId) (g : Nat → Nat → Value) (T : Nat → Nat → Nat → Prop), (0 < cap → ad = ⟨b, o, none⟩) ∧
      c.hp[b]? = some (.cells cs E (0, 0)) ∧ rows.length ≤ cap ∧ o + cap * es ≤ cs.size ∧ (∀ (i : Nat) (row : List Ce), rows[i]? = some row → row.length = es) ∧
      (∀ (i : Nat) (row : List Ce), rows[i]? = some row → ∀ (j : Nat) (x : Ce), row[j]? = some x → cs[o + i * es + j]? = some (g i j)) ∧
      (∀ (i : Nat) (row : List Ce), rows[i]? = some row → ∀ (j : Nat) (x : Ce), row[j]? = some x → TR c refs (T i j) (g i j) x) ∧
      (∀ i j k, T i j k → ∃ row x, rows[i]? = some row ∧ row[j]? = some x) ∧
      (∀ k, S k ↔ k = b ∨ ∃ i j, T i j k) ∧ (∀ i j, ¬ T i j b) ∧ (∀ i j i' j' k, T i j k → T i' j' k → i = i' ∧ j = j') := by
  cases h with
  | nil => exact (hne.elim (fun e => e rfl) fun ⟨_, e⟩ => e).elim
  | n had cs E g T hb hcap hsz hlen hg hr hT hS hd hd2 => exact ⟨_, _, cs, E, g, T, had, hb, hcap, hsz, hlen, hg, hr, hT, hS, hd, hd2⟩

theorem TR.val {c : Cx} {refs : List Nat} {S : Nat → Prop} {u : Value} {x : V} (h : TR c refs S u (.v x)) : RV (c.only refs) u x := by
  cases h with
  | v h1 h => exact h

/-- From one heap to another, in the same memory. -/
def Step (xs : List V) (H H' : Heap) : Prop :=
  ∀ (w : World) (β : Nat → Hd) (F : Nat → Prop) (vs : Array Value), HOK w.heap H β F → RVs (cx w.heap H β F) vs xs → ∃ β', Adv F w H β w H' β'

theorem Step.refl (xs : List V) (H : Heap) : Step xs H H := fun w β F vs hk hr => ⟨β, hk, .refl _, .refl _ _⟩

theorem RVs.mono {c c' : Cx} {vs : Array Value} {xs : List V} (h : RVs c vs xs) (hc : c.le c') : RVs c' vs xs := ⟨h.1, fun i v x hv hx => (h.2 i v x hv hx).mono hc⟩

theorem Step.trans {xs : List V} {H H' H'' : Heap} (h : Step xs H H') (k : Step xs H' H'') : Step xs H H'' := fun w β F vs hk hr => by
  obtain ⟨β', a⟩ := h w β F vs hk hr
  obtain ⟨β'', b⟩ := k w β' F vs a.hok (hr.mono a.le)
  exact ⟨β'', a.trans b⟩

theorem DC.pre {P : Program} {f : FuncId} {xs : List V} {H H1 : Heap} {Q : V → Heap → Prop} (hs : Step xs H H1) (h : DC P f xs H1 Q) : DC P f xs H Q := fun w β F vs hk hr => by
  obtain ⟨β', a⟩ := hs w β F vs hk hr
  refine (h w β' F vs a.hok (hr.mono a.le)).mono fun e w' ⟨r, x, H', β2, h1, h2, h3, h4⟩ => ⟨r, x, H', β2, h1, a.trans h2, h3, h4⟩

theorem RVs.cons' {c : Cx} {v : Value} {x : V} {vs : Array Value} {xs : List V} (h : RV c v x) (hs : RVs c vs xs) : RVs c (#[v] ++ vs) (x :: xs) := by
  refine ⟨by simp [hs.1]; omega, fun i u y h1 h2 => ?_⟩
  cases i with
  | zero => simp [Array.getElem?_append] at h1 h2; subst h1; subst h2; exact h
  | succ i =>
    rw [Array.getElem?_append, if_neg (by simp)] at h1
    exact hs.2 i u y (by simpa using h1) (by simpa using h2)

theorem DC.post {P : Program} {f : FuncId} {xs : List V} {H : Heap} {Q Q' : V → Heap → Prop} (h : DC P f xs H Q) (hq : ∀ x H1, Q x H1 → ∃ H2, Step (x :: xs) H1 H2 ∧ Q' x H2) : DC P f xs H Q' := fun w β F vs hk hr =>
  (h w β F vs hk hr).mono fun e w' ⟨r, x, H', β2, h1, h2, h3, h4⟩ => by
    obtain ⟨H2, hs, hQ⟩ := hq x H' h4
    obtain ⟨β3, a⟩ := hs w' β2 F _ h2.hok (RVs.cons' h3 (hr.mono h2.le))
    exact ⟨r, x, H2, β3, h1, h2.trans a, h3.mono a.le, hQ⟩

/-- Rows without slices of their own. -/
def flatC (rows : List (List V)) : List (List Ce) := rows.map fun r => r.map Ce.v

section
variable {w : World} {β : Nat → Hd} {F : Nat → Prop} {H : Heap}

end
end Go.Abs

namespace Go.Abs
set_option linter.unusedVariables false

theorem TR.congr {c : Cx} {refs : List Nat} {S S' : Nat → Prop} {u : Value} {x : Ce} (h : TR c refs S u x) (hs : ∀ k, S k ↔ S' k) : TR c refs S' u x := by
  have : S = S' := funext fun k => propext (hs k)
  exact this ▸ h

theorem TR.cell {c : Cx} {refs : List Nat} {S : Nat → Prop} {ad : Addr} {n cap es i j : Nat} {rows : List (List Ce)} {row : List Ce} {x : Ce} (h : TR c refs S (.slice (some ad) n cap) (.n es rows)) (hi : rows[i]? = some row) (hj : row[j]? = some x) :
    ∃ u Sx, TR c refs Sx u x ∧ (∀ k, Sx k → S k) ∧ (∀ b o, (0 < cap → ad = ⟨b, o, none⟩) → rows ≠ [] → ¬ Sx b ∧ S b) ∧ ∀ (c' : Cx) (refs' : List Nat), c'.hp = c.hp → (∀ S u x, TR c refs S u x → TR c' refs' S u x) → ∀ (y : Ce) (Sy : Nat → Prop), TR c' refs' Sy u y → (∀ k, Sy k → S k → Sx k) → TR c' refs' (fun k => (S k ∧ ¬ Sx k) ∨ Sy k) (.slice (some ad) n cap) (.n es (rows.set i (row.set j y))) := by
  have hn : n = rows.length := by cases h <;> rfl
  subst hn
  obtain ⟨b, o, cs, E, g, T, had, hb, hcap, hsz, hlen, hg, hr, hT, hS, hd, hd2⟩ := h.inv (.inl (by rintro rfl; simp at hi))
  refine ⟨g i j, T i j, hr i row hi j x hj, fun k hk => (hS k).2 (.inr ⟨i, j, hk⟩), fun b' o' h1 h2 => ?_, fun c' refs' hhp hup y Sy hy hdis => ?_⟩
  · have hc : 0 < cap := by cases rows with
      | nil => exact absurd rfl h2
      | cons => exact Nat.lt_of_lt_of_le (by simp) hcap
    have e := (h1 hc).symm.trans (had hc)
    injection e with e
    subst e
    exact ⟨hd i j, (hS _).2 (.inl rfl)⟩
  · have hl : (rows.set i (row.set j y)).length = rows.length := List.length_set
    rw [← hl]
    have key : ∀ i' row', (rows.set i (row.set j y))[i']? = some row' → ∀ j' x', row'[j']? = some x' → (i' = i ∧ j' = j ∧ x' = y) ∨ (¬ (i' = i ∧ j' = j) ∧ ∃ r0, rows[i']? = some r0 ∧ r0[j']? = some x') := by
      intro i' row' h1 j' x' h2
      by_cases hii : i' = i
      · subst hii
        rw [get_set hi] at h1
        cases h1
        by_cases hjj : j' = j
        · subst hjj
          rw [get_set hj] at h2
          cases h2
          exact .inl ⟨rfl, rfl, rfl⟩
        · rw [getElem?_set_ne' hjj] at h2
          exact .inr ⟨fun e => hjj e.2, row, hi, h2⟩
      · rw [getElem?_set_ne' hii] at h1
        exact .inr ⟨fun e => hii e.1, row', h1, h2⟩
    refine .n had cs E g (fun i' j' k => if i' = i ∧ j' = j then Sy k else T i' j' k) (hhp ▸ hb) (by omega) hsz (fun i' row' h1 => ?_) (fun i' row' h1 j' x' h2 => ?_) (fun i' row' h1 j' x' h2 => ?_) (fun i' j' k h1 => ?_) (fun k => ⟨fun h1 => ?_, fun h1 => ?_⟩) (fun i' j' h1 => ?_) fun i1 j1 i2 j2 k h1 h2 => ?_
    · by_cases hii : i' = i
      · subst hii
        rw [get_set hi] at h1
        cases h1
        rw [List.length_set]; exact hlen _ _ hi
      · rw [getElem?_set_ne' hii] at h1
        exact hlen _ _ h1
    · rcases key i' row' h1 j' x' h2 with ⟨rfl, rfl, rfl⟩ | ⟨_, r0, h3, h4⟩
      · exact hg _ _ hi _ _ hj
      · exact hg _ _ h3 _ _ h4
    · rcases key i' row' h1 j' x' h2 with ⟨rfl, rfl, rfl⟩ | ⟨h5, r0, h3, h4⟩
      · simpa using hy
      · have : (fun k => if i' = i ∧ j' = j then Sy k else T i' j' k) = T i' j' := by funext k; rw [if_neg h5]
        rw [this]
        exact hup _ _ _ (hr _ _ h3 _ _ h4)
    · by_cases hij : i' = i ∧ j' = j
      · obtain ⟨rfl, rfl⟩ := hij
        exact ⟨row.set j' y, y, get_set hi, get_set hj⟩
      · rw [if_neg hij] at h1
        obtain ⟨r0, x0, h2, h3⟩ := hT _ _ _ h1
        by_cases hii : i' = i
        · subst hii
          rw [hi] at h2; cases h2
          have hjj : j' ≠ j := fun e => hij ⟨rfl, e⟩
          exact ⟨_, x0, get_set hi, by rw [getElem?_set_ne' hjj]; exact h3⟩
        · exact ⟨r0, x0, by rw [getElem?_set_ne' hii]; exact h2, h3⟩
    · rcases h1 with ⟨h1, h2⟩ | h1
      · rcases (hS k).1 h1 with h3 | ⟨i', j', h3⟩
        · exact .inl h3
        · refine .inr ⟨i', j', ?_⟩
          have : ¬ (i' = i ∧ j' = j) := by rintro ⟨rfl, rfl⟩; exact h2 h3
          rw [if_neg this]; exact h3
      · exact .inr ⟨i, j, by rw [if_pos ⟨rfl, rfl⟩]; exact h1⟩
    · rcases h1 with rfl | ⟨i', j', h1⟩
      · exact .inl ⟨(hS _).2 (.inl rfl), hd _ _⟩
      · by_cases hij : i' = i ∧ j' = j
        · rw [if_pos hij] at h1; exact .inr h1
        · rw [if_neg hij] at h1
          exact .inl ⟨(hS _).2 (.inr ⟨_, _, h1⟩), fun e => hij (hd2 _ _ _ _ _ h1 e)⟩
    · by_cases hij : i' = i ∧ j' = j
      · rw [if_pos hij] at h1
        exact hd _ _ (hdis _ h1 ((hS _).2 (.inl rfl)))
      · rw [if_neg hij] at h1
        exact hd _ _ h1
    · by_cases h3 : i1 = i ∧ j1 = j <;> by_cases h4 : i2 = i ∧ j2 = j
      · exact ⟨h3.1.trans h4.1.symm, h3.2.trans h4.2.symm⟩
      · rw [if_pos h3] at h1; rw [if_neg h4] at h2
        exact absurd (hd2 _ _ _ _ _ h2 (hdis _ h1 ((hS _).2 (.inr ⟨_, _, h2⟩)))) h4
      · rw [if_neg h3] at h1; rw [if_pos h4] at h2
        exact absurd (hd2 _ _ _ _ _ h1 (hdis _ h2 ((hS _).2 (.inr ⟨_, _, h1⟩)))) h3
      · rw [if_neg h3] at h1; rw [if_neg h4] at h2
        exact hd2 _ _ _ _ _ h1 h2

end Go.Abs

namespace Go.Abs
set_option linter.unusedVariables false
section
variable {w : World} {β : Nat → Hd} {F : Nat → Prop} {H : Heap}

end
end Go.Abs

namespace Go.Abs
set_option linter.unusedVariables false
section
variable {w : World} {β : Nat → Hd} {F : Nat → Prop} {H : Heap}

/-- A cell's slice by itself: how an object that lies so would lie. -/
theorem TR.alone {c : Cx} {refs : List Nat} {S : Nat → Prop} {u : Value} {es : Nat} {rows : List (List Ce)} (h : TR c refs S u (.n es rows)) :
    ∃ hd : Hd, hd.es = es ∧ hd.lo = 0 ∧ (hd.wt rows.length).slice 0 rows.length u ∧ (∀ b, (hd.nil = false ∧ (hd.b = b ∨ hd.sub b)) ↔ S b) ∧ RO c hd (.tree refs rows) := by
  cases h with
  | nil =>
    refine ⟨⟨0, 0, 0, es, 0, true, 0, noSub⟩, rfl, rfl, .inl ⟨rfl, ⟨_, rfl⟩, rfl⟩, fun b => ⟨?_, fun e => e.elim⟩, .inl ⟨rfl, rfl, rfl⟩⟩
    rintro ⟨e, _⟩
    cases e
  | n had cs E g T hb hcap hsz hlen hg hr hT hS hd hd2 =>
    rename_i ad b o cap
    refine ⟨⟨b, o, cap, es, 0, false, 0, fun k => S k ∧ k ≠ b⟩, rfl, rfl, .inr ⟨rfl, ad, by simp [Hd.wt], by simp [Hd.wt], fun hc => ?_⟩, fun k => ?_, .inr ⟨rfl, rfl, fun e => e.2 rfl, ?_, fun cs' E' fr' e => ?_⟩⟩
    · have := had (by simpa [Hd.wt] using hc)
      simp [Hd.wt, this]
    · constructor
      · rintro ⟨_, rfl | e⟩
        · exact (hS _).2 (.inl rfl)
        · exact e.1
      · intro e
        by_cases hkb : b = k
        · exact ⟨rfl, .inl hkb⟩
        · exact ⟨rfl, .inr ⟨e, fun e => hkb e.symm⟩⟩
    · refine (TR.n (ad := ⟨b, o, none⟩) (fun _ => rfl) cs E g T hb hcap hsz hlen hg hr hT hS hd hd2).congr fun k => ?_
      constructor
      · intro e
        by_cases hkb : b = k
        · exact .inl hkb
        · exact .inr ⟨e, fun e => hkb e.symm⟩
      · rintro (rfl | e)
        · exact (hS _).2 (.inl rfl)
        · exact e.1
    · rw [hb] at e; cases e; exact hsz

end
end Go.Abs

/- Contracts: what a call leaves that its caller has no use for. -/
namespace Go.Abs
set_option linter.unusedVariables false

theorem hok_trim {n : Nat} {F : Nat → Prop} {w : World} {β : Nat → Hd} {H : Heap} (hk : HOK w.heap H β F) :
    HOK w.heap ((H.take n).map (limO n)) β F ∧ (∀ id b, ownsB ((H.take n).map (limO n)) β id b → ownsB H β id b) ∧ (∀ id g, hdOf ((H.take n).map (limO n)) β id = some g → hdOf H β id = some g) ∧ (∀ id, id < n → liveIn H id → liveIn ((H.take n).map (limO n)) id) ∧
      ∀ refs : List Nat, (∀ i ∈ refs, i < n) → ((cx w.heap H β F).only refs).le ((cx w.heap ((H.take n).map (limO n)) β F).only refs) := by
  have hget : ∀ {id : Nat} {o : O}, ((H.take n).map (limO n))[id]? = some o → id < n ∧ ∃ o', H[id]? = some o' ∧ o = limO n o' := by
    intro id o h
    simp only [List.getElem?_map, Option.map_eq_some_iff] at h
    obtain ⟨o', h, rfl⟩ := h
    rw [List.getElem?_take] at h
    split at h
    · next hlt => exact ⟨hlt, o', h, rfl⟩
    · cases h
  have hown : ∀ id b, ownsB ((H.take n).map (limO n)) β id b → ownsB H β id b := by
    intro id b h
    unfold ownsB at h
    cases h1 : ((H.take n).map (limO n))[id]? with
    | none => rw [h1] at h; exact h.elim
    | some o =>
      obtain ⟨hlt, o', h2, rfl⟩ := hget h1
      rw [h1] at h
      unfold ownsB
      rw [h2]
      unfold limO at h
      split at h
      · next e =>
        split at e
        · injection e with e; subst e; exact h
        · cases e
      · next e =>
        split at e
        · injection e with e; subst e; exact h
        · cases e
      · next e =>
        split at e
        · injection e with e; subst e; exact h
        · cases e
      · next e =>
        split at e
        · injection e with e; subst e; exact h
        · cases e
      · exact h.elim
  have hhd : ∀ id g, hdOf ((H.take n).map (limO n)) β id = some g → hdOf H β id = some g := by
    intro id g h
    unfold hdOf at h
    cases h1 : ((H.take n).map (limO n))[id]? with
    | none => rw [h1] at h; cases h
    | some o =>
      obtain ⟨hlt, o', h2, rfl⟩ := hget h1
      rw [h1] at h
      unfold hdOf
      rw [h2]
      unfold limO at h
      split at h
      · next e =>
        split at e
        · injection e with e; subst e; exact h
        · cases e
      · next e =>
        split at e
        · injection e with e; subst e; exact h
        · cases e
      · next e =>
        split at e
        · injection e with e; subst e; exact h
        · cases e
      · next e =>
        split at e
        · injection e with e; subst e; exact h
        · cases e
      · cases h
  have hlive : ∀ id, id < n → liveIn H id → liveIn ((H.take n).map (limO n)) id := by
    rintro id hlt ⟨o, h1, h2⟩
    refine ⟨limO n o, ?_, ?_⟩
    · simp [List.getElem?_take, hlt, h1]
    · unfold limO; split
      · exact h2
      · intro e; cases e
  have hle : ∀ refs : List Nat, (∀ i ∈ refs, i < n) → ((cx w.heap H β F).only refs).le ((cx w.heap ((H.take n).map (limO n)) β F).only refs) := by
    intro refs hrefs
    refine ⟨Nat.le_refl _, fun b hb hno => ⟨rfl, fun e => hno ?_⟩, fun id hl => ⟨hl.1, hlive id (hrefs id hl.1) hl.2⟩, fun id g' hl e => .inl (hhd id g' e)⟩
    rcases e with ⟨id, e⟩ | e
    · exact .inl ⟨id, hown id b e⟩
    · exact .inr e
  refine ⟨⟨fun id o h => ?_, fun id id' b h1 h2 => hk.one id id' b (hown _ _ h1) (hown _ _ h2), fun b hb => ⟨(hk.far b hb).1, fun ⟨id, e⟩ => (hk.far b hb).2 ⟨id, hown _ _ e⟩⟩⟩, hown, hhd, hlive, hle⟩
  · obtain ⟨hlt, o', h2, rfl⟩ := hget h
    have hro := hk.ro id o' h2
    unfold limO
    split
    · next hrefs =>
      have hrefs' : ∀ i ∈ o'.refs, i < n := fun i hi => by simpa using List.all_eq_true.1 hrefs i hi
      have hownb : ∀ b, (cx w.heap ((H.take n).map (limO n)) β F).own b → (cx w.heap H β F).own b := by
        rintro b (⟨id, e⟩ | e)
        · exact .inl ⟨id, hown id b e⟩
        · exact .inr e
      cases o' with
      | res => trivial
      | dead => trivial
      | sit s pos => exact hro
      | tree refs rows =>
        rcases hro with hro | ⟨q1, q2, q3, q4, q5⟩
        · exact .inl hro
        · exact .inr ⟨q1, q2, q3, q4.mono (hle refs hrefs') fun _ _ => rfl, q5⟩
      | mem fz refs rows =>
        rcases hro with hro | ⟨q1, q2, q3, q4, q5, cs, E, fr, q6, q7, q8, q9⟩
        · exact .inl hro
        · refine .inr ⟨q1, q2, q3, q4, fun e k => q5 e (hownb _ k), cs, E, fr, q6, q7, q8, fun i row hi hlo j x hj => ?_⟩
          obtain ⟨v, e1, e2, e3⟩ := q9 i row hi hlo j x hj
          exact ⟨v, e1, e2, e3.mono (hle refs hrefs')⟩
      | map fz refs es =>
        obtain ⟨q1, ents, clock, q2, q3, q4, q5, q6⟩ := hro
        exact ⟨fun e k => q1 e (hownb _ k), ents, clock, q2, q3, q4, q5, fun i e x he hx => ⟨(q6 i e x he hx).1.mono (hle [] (by simp)), (q6 i e x he hx).2.mono (hle refs hrefs')⟩⟩
    · trivial

theorem DC.trim {P : Program} {f : FuncId} {xs : List V} {H : Heap} {Q Q' : V → Heap → Prop} (h : DC P f xs H Q)
    (hq : ∀ x H', Q x H' → ∃ n, H.length ≤ n ∧ (∀ i ∈ x.ids, i < n) ∧ Q' x ((H'.take n).map (limO n))) : DC P f xs H Q' := fun w β F vs hk hr =>
  (h w β F vs hk hr).mono fun e w' ⟨r, x, H', β2, h1, h2, h3, h4⟩ => by
    obtain ⟨n, hn, hx, hQ⟩ := hq x H' h4
    obtain ⟨t1, hown, hhd, hlive, hle⟩ := hok_trim (n := n) h2.hok
    refine ⟨r, x, _, β2, h1, ⟨t1, ⟨h2.le.size, fun b hb hno => ⟨(h2.le.same b hb hno).1, fun e => (h2.le.same b hb hno).2 (e.imp (fun ⟨id, e⟩ => ⟨id, hown _ _ e⟩) fun e => e)⟩, fun id hl => ?_, fun id g' hl e => h2.le.hd id g' hl (hhd _ _ e)⟩, h2.ext⟩, ?_, hQ⟩
    · have hlt : id < H.length := by obtain ⟨o, e, _⟩ := hl; exact lt_of_get e
      exact hlive id (Nat.lt_of_lt_of_le hlt hn) (h2.le.live id hl)
    · exact ((h3.onlyOf _ fun i hi => hi).mono (hle _ hx)).up
end Go.Abs

namespace Go.Abs
set_option linter.unusedVariables false
section
variable {w : World} {β : Nat → Hd} {F : Nat → Prop} {H : Heap}

abbrev nilS : V := .a (.slice none 0 0)

end
end Go.Abs
namespace Go.Abs
end Go.Abs

namespace Go.Abs
set_option linter.unusedVariables false

/-- A child: its number, its cells' size, what it may name, its rows. -/
structure Kid where
  id : Nat
  es : Nat
  refs : List Nat
  L : List (List Ce)

def Kid.own (c : Kid) : List Ce := [.v (.own c.id c.es 0 c.L.length c.L.length)]
end Go.Abs

namespace Go.Abs
set_option linter.unusedVariables false

end Go.Abs

namespace Go.Abs
set_option linter.unusedVariables false

/-- A slice cut short lies in no more blocks. -/
theorem TR.take {c : Cx} {refs : List Nat} {S : Nat → Prop} {ad : Addr} {n cap es : Nat} {rows : List (List Ce)} (l : Nat) (h : TR c refs S (.slice (some ad) n cap) (.n es rows)) (hl : l ≤ rows.length) :
    ∃ S', (∀ k, S' k → S k) ∧ TR c refs S' (.slice (some ad) l cap) (.n es (rows.take l)) := by
  have hn : n = rows.length := by cases h <;> rfl
  subst hn
  by_cases hne : rows = []
  · subst hne
    obtain rfl : l = 0 := by simpa using hl
    exact ⟨S, fun _ h => h, by simpa using h⟩
  obtain ⟨b, o, cs, E, g, T, had, hb, hcap, hsz, hlen, hg, hr, hT, hS, hd, hd2⟩ := h.inv (.inl hne)
  have hlt : (rows.take l).length = l := by rw [List.length_take]; omega
  have hget : ∀ {i : Nat} {row : List Ce}, (rows.take l)[i]? = some row → i < l ∧ rows[i]? = some row := fun {i row} h => by
    rw [List.getElem?_take] at h
    split at h
    · next q => exact ⟨q, h⟩
    · cases h
  refine ⟨fun k => k = b ∨ ∃ i j, i < l ∧ T i j k, fun k hk => (hS k).2 (hk.imp id fun ⟨i, j, _, e⟩ => ⟨i, j, e⟩), ?_⟩
  have := TR.n (c := c) (refs := refs) (S := fun k => k = b ∨ ∃ i j, i < l ∧ T i j k) had cs E g (fun i j k => i < l ∧ T i j k) hb (by rw [hlt]; omega) hsz (fun i row h => hlen i row (hget h).2) (fun i row h j x hx => hg i row (hget h).2 j x hx)
    (fun i row h j x hx => (hr i row (hget h).2 j x hx).congr fun k => ⟨fun e => ⟨(hget h).1, e⟩, fun e => e.2⟩)
    (fun i j k h => by
      obtain ⟨row, x, h1, h2⟩ := hT i j k h.2
      exact ⟨row, x, by rw [List.getElem?_take, if_pos h.1]; exact h1, h2⟩)
    (fun k => Iff.rfl) (fun i j h => hd i j h.2) (fun i j i' j' k h h' => hd2 i j i' j' k h.2 h'.2)
  rw [hlt] at this
  exact this
end Go.Abs

namespace Go.Abs
set_option linter.unusedVariables false
section
variable {w : World} {β : Nat → Hd} {F : Nat → Prop} {H : Heap}

end
end Go.Abs

namespace Go.Abs.G
open Go.Proofs
attribute [local simp] I.vc sub merge place
set_option linter.unusedVariables false

theorem within_spec (n most : Int) (h0 : 0 ≤ most) (h1 : most ≤ 9223372036854775807) : Pf Try.prog model_within.id [V.i n, V.i most] (.bool (withinB n most)) := by
  refine DC.of model_within.ok (by simp) ?_
  have hw : IntKind.i64.wrap (-most) = -most := wrap64 (by omega) (by omega)
  simp [model_within.ir, model_within.rs, hw, withinB]
  by_cases h : -most ≤ n <;> simp [h] <;> omega

theorem great1_spec (n : Int) : Pf Try.prog model_great_1.id [V.i n] (.bool (!withinB n 1000000000)) := by
  refine DC.of model_great_1.ok (by simp) ?_
  simp [model_great_1.ir, model_great_1.rs]
  exact (within_spec n 1000000000 (by decide) (by decide)).use (by simp)

/-- The place of the first of which something is told. -/
def firstAt {α : Type} (p : α → Bool) : Nat → List α → Int
  | _, [] => -1
  | i, x :: l => if p x then i else firstAt p (i + 1) l

theorem firstAt_any {α : Type} (p : α → Bool) : ∀ (l : List α) (i : Nat), decide (0 ≤ firstAt p i l) = l.any p := by
  intro l
  induction l with
  | nil => intro i; simp [firstAt]
  | cons x l ih =>
    intro i
    simp only [firstAt, List.any_cons]
    by_cases h : p x = true
    · simp [h]
    · simp [h, ih]

theorem firstAt_drop {α : Type} (p : α → Bool) {l : List α} {i : Nat} (h : i < l.length) : firstAt p i (l.drop i) = if p l[i] then (i : Int) else firstAt p (i + 1) (l.drop (i + 1)) := by
  rw [List.drop_eq_getElem_cons h]; rfl

theorem index_int_spec {f : FuncId} {cap : List V} {p : Int → Bool} {l : List Int} (hok : okFunc Try.prog f = true) (hids : V.idsL cap = []) (hg : ∀ t ∈ l, DP Try.prog f (V.i t :: cap) fun r => r = .bool (p t)) (hl : l.length ≤ maxLen) :
    Pf Try.prog slices_IndexFunc_Lint_int.id [vInts l, .fn (.func f) [] cap] (V.i (firstAt p 0 l)) := by
  have hm : (maxLen : Int) ≤ 9223372036854775807 := by decide
  refine DC.of slices_IndexFunc_Lint_int.ok (by simp) ?_
  simp [slices_IndexFunc_Lint_int.ir, slices_IndexFunc_Lint_int.rs, vInts]
  refine WI.loop 0 (by simp) (fun s => ∃ i, i ≤ l.length ∧ gt s.sl 1 = .fn (.func f) [] cap ∧ gt s.sl 0 = vInts l ∧ gt s.sl 7 = V.i l.length ∧ gt s.sl 8 = V.i i ∧ s.hp = [] ∧ firstAt p 0 l = firstAt p i (l.drop i)) (fun s => (l.length - (gt s.sl 8).num).toNat) ?_ ?_
  · exact ⟨0, by simp [vInts]⟩
  · rintro ⟨sl, hp, bs⟩ ⟨i, hi, h1, h0, h7, h8, rfl, he⟩
    by_cases hil : i < l.length
    · simp [slices_IndexFunc_Lint_int.b0, h1, h0, h7, h8, vInts, hil, hok, hids]
      refine DP.mono (hg _ (List.getElem_mem hil)) fun r hr => ?_
      subst hr
      rw [firstAt_drop p hil] at he
      have hw : IntKind.i64.wrap ((i : Int) + 1) = ((i + 1 : Nat) : Int) := by rw [wrap64] <;> omega
      cases hp : p l[i]
      · simp [hw, he, hp]
        exact ⟨⟨i + 1, by omega, by omega, rfl⟩, by omega⟩
      · simp [he, hp]
    · obtain rfl : i = l.length := by omega
      simp [slices_IndexFunc_Lint_int.b0, h1, h0, h7, h8, he, firstAt]

theorem contains_int_spec {f : FuncId} {cap : List V} {p : Int → Bool} {l : List Int} (hok : okFunc Try.prog f = true) (hids : V.idsL cap = []) (hg : ∀ t ∈ l, DP Try.prog f (V.i t :: cap) fun r => r = .bool (p t)) (hl : l.length ≤ maxLen) :
    Pf Try.prog slices_ContainsFunc_Lint_int.id [vInts l, .fn (.func f) [] cap] (.bool (l.any p)) := by
  refine DC.of slices_ContainsFunc_Lint_int.ok (by simp) ?_
  simp [slices_ContainsFunc_Lint_int.ir, slices_ContainsFunc_Lint_int.rs, vInts, hids]
  refine (index_int_spec hok hids hg hl).use ?_
  simp [firstAt_any]

theorem great_spec (l : List Int) (hl : l.length ≤ maxLen) : Pf Try.prog model_great.id [vInts l] (.bool (greatB l)) := by
  refine DC.of model_great.ok (by simp) ?_
  simp [model_great.ir, model_great.rs, vInts]
  refine (contains_int_spec (by simp) (by simp) (fun t _ => great1_spec t) hl).use ?_
  simp [greatB]

theorem counts_spec (b : Bool) (n : Nat) : Pf Try.prog model_counts.id [.bool b, V.i n] (.bool (countsB b n)) := by
  refine DC.of model_counts.ok (by simp) ?_
  simp [model_counts.ir, model_counts.rs, countsB]
  cases b <;> by_cases h : 1 ≤ n <;> simp [h] <;> omega

end Go.Abs.G



namespace Go.Abs.G
open Go.Proofs
attribute [local simp] I.vc sub merge place
set_option linter.unusedVariables false
theorem index_ints_spec {f : FuncId} {cap : List V} {p : List Int → Bool} {l : List (List Int)} (hok : okFunc Try.prog f = true) (hids : V.idsL cap = []) (hg : ∀ t ∈ l, DP Try.prog f (vInts t :: cap) fun r => r = .bool (p t)) (hl : l.length ≤ maxLen) :
    Pf Try.prog slices_IndexFunc_LLint_Lint.id [vIntss l, .fn (.func f) [] cap] (V.i (firstAt p 0 l)) := by
  have hm : (maxLen : Int) ≤ 9223372036854775807 := by decide
  refine DC.of slices_IndexFunc_LLint_Lint.ok (by simp) ?_
  simp [slices_IndexFunc_LLint_Lint.ir, slices_IndexFunc_LLint_Lint.rs, vIntss]
  refine WI.loop 0 (by simp) (fun s => ∃ i, i ≤ l.length ∧ gt s.sl 1 = .fn (.func f) [] cap ∧ gt s.sl 0 = vIntss l ∧ gt s.sl 7 = V.i l.length ∧ gt s.sl 8 = V.i i ∧ s.hp = [] ∧ firstAt p 0 l = firstAt p i (l.drop i)) (fun s => (l.length - (gt s.sl 8).num).toNat) ?_ ?_
  · exact ⟨0, by simp [vIntss]⟩
  · rintro ⟨sl, hp, bs⟩ ⟨i, hi, h1, h0, h7, h8, rfl, he⟩
    by_cases hil : i < l.length
    · simp [slices_IndexFunc_LLint_Lint.b0, h1, h0, h7, h8, vIntss, vInts, hil, hok, hids]
      refine DP.mono (hg _ (List.getElem_mem hil)) fun r hr => ?_
      subst hr
      rw [firstAt_drop p hil] at he
      have hw : IntKind.i64.wrap ((i : Int) + 1) = ((i + 1 : Nat) : Int) := by rw [wrap64] <;> omega
      cases hp : p l[i]
      · simp [hw, he, hp]
        exact ⟨⟨i + 1, by omega, by omega, rfl⟩, by omega⟩
      · simp [he, hp]
    · obtain rfl : i = l.length := by omega
      simp [slices_IndexFunc_LLint_Lint.b0, h1, h0, h7, h8, he, firstAt]

theorem contains_ints_spec {f : FuncId} {cap : List V} {p : List Int → Bool} {l : List (List Int)} (hok : okFunc Try.prog f = true) (hids : V.idsL cap = []) (hg : ∀ t ∈ l, DP Try.prog f (vInts t :: cap) fun r => r = .bool (p t)) (hl : l.length ≤ maxLen) :
    Pf Try.prog slices_ContainsFunc_LLint_Lint.id [vIntss l, .fn (.func f) [] cap] (.bool (l.any p)) := by
  refine DC.of slices_ContainsFunc_LLint_Lint.ok (by simp) ?_
  simp [slices_ContainsFunc_LLint_Lint.ir, slices_ContainsFunc_LLint_Lint.rs, vIntss, hids]
  refine (index_ints_spec hok hids hg hl).use ?_
  simp [firstAt_any]

theorem index_var_spec {f : FuncId} {cap : List V} {p : Var → Bool} {l : List (Var)} (hok : okFunc Try.prog f = true) (hids : V.idsL cap = []) (hg : ∀ t ∈ l, DP Try.prog f (.agg t.cells :: cap) fun r => r = .bool (p t)) (hl : l.length ≤ maxLen) :
    Pf Try.prog slices_IndexFunc_Lapi_Var_api_Var.id [vVars l, .fn (.func f) [] cap] (V.i (firstAt p 0 l)) := by
  have hm : (maxLen : Int) ≤ 9223372036854775807 := by decide
  refine DC.of slices_IndexFunc_Lapi_Var_api_Var.ok (by simp) ?_
  simp [slices_IndexFunc_Lapi_Var_api_Var.ir, slices_IndexFunc_Lapi_Var_api_Var.rs, vVars]
  refine WI.loop 0 (by simp) (fun s => ∃ i, i ≤ l.length ∧ gt s.sl 1 = .fn (.func f) [] cap ∧ gt s.sl 0 = vVars l ∧ gt s.sl 7 = V.i l.length ∧ gt s.sl 8 = V.i i ∧ s.hp = [] ∧ firstAt p 0 l = firstAt p i (l.drop i)) (fun s => (l.length - (gt s.sl 8).num).toNat) ?_ ?_
  · exact ⟨0, by simp [vVars]⟩
  · rintro ⟨sl, hp, bs⟩ ⟨i, hi, h1, h0, h7, h8, rfl, he⟩
    by_cases hil : i < l.length
    · simp [slices_IndexFunc_Lapi_Var_api_Var.b0, h1, h0, h7, h8, vVars, Var.cells, hil, hok, hids]
      refine DP.mono (hg _ (List.getElem_mem hil)) fun r hr => ?_
      subst hr
      rw [firstAt_drop p hil] at he
      have hw : IntKind.i64.wrap ((i : Int) + 1) = ((i + 1 : Nat) : Int) := by rw [wrap64] <;> omega
      cases hp : p l[i]
      · simp [hw, he, hp]
        exact ⟨⟨i + 1, by omega, by omega, rfl⟩, by omega⟩
      · simp [he, hp]
    · obtain rfl : i = l.length := by omega
      simp [slices_IndexFunc_Lapi_Var_api_Var.b0, h1, h0, h7, h8, he, firstAt]

theorem contains_var_spec {f : FuncId} {cap : List V} {p : Var → Bool} {l : List (Var)} (hok : okFunc Try.prog f = true) (hids : V.idsL cap = []) (hg : ∀ t ∈ l, DP Try.prog f (.agg t.cells :: cap) fun r => r = .bool (p t)) (hl : l.length ≤ maxLen) :
    Pf Try.prog slices_ContainsFunc_Lapi_Var_api_Var.id [vVars l, .fn (.func f) [] cap] (.bool (l.any p)) := by
  refine DC.of slices_ContainsFunc_Lapi_Var_api_Var.ok (by simp) ?_
  simp [slices_ContainsFunc_Lapi_Var_api_Var.ir, slices_ContainsFunc_Lapi_Var_api_Var.rs, vVars, hids]
  refine (index_var_spec hok hids hg hl).use ?_
  simp [firstAt_any]

end Go.Abs.G



namespace Go.Abs.G
open Go.Proofs
attribute [local simp] I.vc sub merge place
set_option linter.unusedVariables false
theorem any_take_succ {α : Type} (p : α → Bool) {l : List α} {i : Nat} (h : i < l.length) : (l.take (i + 1)).any p = ((l.take i).any p || p l[i]) := by
  rw [List.take_succ_eq_append_getElem h, List.any_append]; simp

theorem terms_spec (l : List Term) (vars : Int) (hl : l.length ≤ maxLen) :
    Pf Try.prog model_terms.id [vTerms l, V.i vars] (.tup [.bool (badVarB vars l), .bool (badCoefB l)]) := by
  have hm : (maxLen : Int) ≤ 9223372036854775807 := by decide
  refine DC.of model_terms.ok (by simp) ?_
  simp [model_terms.ir, model_terms.rs, vTerms]
  refine WI.loop 0 (by simp) (fun s => ∃ i, i ≤ l.length ∧ gt s.sl 1 = V.i vars ∧ gt s.sl 4 = .bool (badVarB vars (l.take i)) ∧ gt s.sl 5 = .bool (badCoefB (l.take i)) ∧ gt s.sl 8 = vTerms l ∧ gt s.sl 9 = V.i l.length ∧ gt s.sl 10 = V.i i ∧ s.hp = []) (fun s => (l.length - (gt s.sl 10).num).toNat) ?_ ?_
  · exact ⟨0, by simp [vTerms, badVarB, badCoefB]⟩
  · rintro ⟨sl, hp, bs⟩ ⟨i, hi, h1, h4, h5, h8, h9, h10, rfl⟩
    by_cases hil : i < l.length
    · have e1 : badVarB vars (l.take (i + 1)) = (badVarB vars (l.take i) || (decide (l[i].x < 0) || decide (vars ≤ l[i].x))) := any_take_succ _ hil
      have e2 : badCoefB (l.take (i + 1)) = (badCoefB (l.take i) || (decide (l[i].c = 0) || !withinB l[i].c 1000000)) := any_take_succ _ hil
      have hw : IntKind.i64.wrap ((i : Int) + 1) = ((i + 1 : Nat) : Int) := by rw [wrap64] <;> omega
      have g10 := h10
      unfold model_terms.b0
      refine vc_cut (fun s => gt s.sl 1 = V.i vars ∧ gt s.sl 4 = .bool (badVarB vars (l.take i)) ∧ gt s.sl 5 = .bool (badCoefB (l.take i)) ∧ gt s.sl 8 = vTerms l ∧ gt s.sl 9 = V.i l.length ∧ gt s.sl 10 = V.i i ∧ gt s.sl 11 = V.bool true ∧ s.hp = []) (by simp [h1, h4, h5, h8, h9, h10, hil]) ?_
      rintro ⟨sl, hp, bs⟩ ⟨h1, h4, h5, h8, h9, h10, h11, rfl⟩
      refine vc_cut (fun s => gt s.sl 1 = V.i vars ∧ gt s.sl 4 = .bool (badVarB vars (l.take i)) ∧ gt s.sl 5 = .bool (badCoefB (l.take i)) ∧ gt s.sl 8 = vTerms l ∧ gt s.sl 9 = V.i l.length ∧ gt s.sl 10 = V.i i ∧ s.hp = []) (by simp [h1, h4, h5, h8, h9, h10, h11, hil]) ?_
      rintro ⟨sl, hp, bs⟩ ⟨h1, h4, h5, h8, h9, h10, rfl⟩
      refine vc_cut (fun s => gt s.sl 1 = V.i vars ∧ gt s.sl 4 = .bool (badVarB vars (l.take (i + 1))) ∧ gt s.sl 5 = .bool (badCoefB (l.take (i + 1))) ∧ gt s.sl 8 = vTerms l ∧ gt s.sl 9 = V.i l.length ∧ gt s.sl 10 = V.i i ∧ s.hp = [.mem false [] [l[i].cells]]) (vc_block_of ?_) ?_
      · refine vc_cut (fun s => gt s.sl 1 = V.i vars ∧ gt s.sl 4 = .bool (badVarB vars (l.take i)) ∧ gt s.sl 5 = .bool (badCoefB (l.take i)) ∧ gt s.sl 7 = .ptr 0 1 0 0 ∧ gt s.sl 8 = vTerms l ∧ gt s.sl 9 = V.i l.length ∧ gt s.sl 10 = V.i i ∧ s.hp = [.mem false [] [l[i].cells]]) (by simp [h1, h4, h5, h8, h9, h10, vTerms, Term.cells, hil]) ?_
        rintro ⟨sl, hp, bs⟩ ⟨h1, h4, h5, h7, h8, h9, h10, rfl⟩
        refine vc_cut (fun s => gt s.sl 1 = V.i vars ∧ gt s.sl 4 = .bool (badVarB vars (l.take (i + 1))) ∧ gt s.sl 5 = .bool (badCoefB (l.take i)) ∧ gt s.sl 7 = .ptr 0 1 0 0 ∧ gt s.sl 8 = vTerms l ∧ gt s.sl 9 = V.i l.length ∧ gt s.sl 10 = V.i i ∧ s.hp = [.mem false [] [l[i].cells]]) ?_ ?_
        · rw [e1]
          simp [h1, h4, h5, h7, h8, h9, h10, vTerms, Term.cells]
          cases badVarB vars (l.take i) <;> simp
          by_cases hx : l[i].x < 0 <;> simp [hx] <;> omega
        rintro ⟨sl, hp, bs⟩ ⟨h1, h4, h5, h7, h8, h9, h10, rfl⟩
        rw [e2]
        simp [h1, h4, h5, h7, h8, h9, h10, vTerms, Term.cells]
        cases badCoefB (l.take i) <;> simp
        by_cases hx : l[i].c = 0 <;> simp [hx]
        refine (within_spec l[i].c 1000000 (by decide) (by decide)).use ?_
        simp
      · rintro ⟨sl, hp, bs⟩ ⟨h1, h4, h5, h8, h9, h10, rfl⟩
        simp [h1, h4, h5, h8, h9, h10, hw, vTerms, g10]
        exact ⟨⟨i + 1, by omega, rfl, rfl, by omega⟩, by omega⟩
    · obtain rfl : i = l.length := by omega
      simp [model_terms.b0, h1, h4, h5, h8, h9, h10]

theorem wide1_spec (r : List Int) (c : Con) : Pf Try.prog model_wide_1.id [vInts r, .ref c.cells 0] (.bool (decide (r.length ≠ c.xs.length))) := by
  refine DC.of model_wide_1.ok (by simp) ?_
  simp [model_wide_1.ir, model_wide_1.rs, vInts, Con.cells, vTerms, vIntss]
  by_cases h : r.length = c.xs.length <;> simp [h]
  omega

theorem byteArray_ext {s t : ByteArray} (h : s.toList = t.toList) : s = t := by
  have hs : ∀ a : ByteArray, a.toList = a.data.toList := fun a => ByteArray.toList_eq a
  rw [hs, hs] at h
  exact ByteArray.ext (Array.ext' h)

theorem variable1_spec (w v : Var) : Pf Try.prog model_variable_1.id [.agg w.cells, .ref v.cells 0] (.bool (decide (w.name = v.name))) := by
  refine DC.of model_variable_1.ok (by simp) ?_
  simp [model_variable_1.ir, model_variable_1.rs, Var.cells]
  by_cases h : w.name = v.name <;> simp [h]
  exact fun h' => h (byteArray_ext h')

end Go.Abs.G



namespace Go.Abs.G
open Go.Proofs
attribute [local simp] I.vc sub merge place
set_option linter.unusedVariables false

theorem wide_spec (c : Con) (n : Needs) (f : FuncId) (hr : c.rows.length ≤ maxLen) : Pf Try.prog model_wide.id [.agg c.cells, .agg (n.cells f)] (.bool (wideB c n)) := by
  refine DC.of model_wide.ok (by simp) ?_
  simp [model_wide.ir, model_wide.rs, wideB, Con.cells, vTerms, vInts, vIntss, Needs.cells]
  by_cases hx : 8 < c.xs.length
  · have hx' : (8 : Int) < c.xs.length := by omega
    cases n.rows <;> simp [hx, hx', Int.not_le.2 hx']
  · have hx' : ¬ (8 : Int) < c.xs.length := by omega
    have hx2 : (c.xs.length : Int) ≤ 8 := by omega
    cases n.rows <;> simp [hx, hx', hx2]
    refine (counts_spec true c.rows.length).use ?_
    simp
    cases hb : countsB true c.rows.length <;> simp
    refine DP.mono (contains_ints_spec (p := fun r => decide (r.length ≠ c.xs.length)) (cap := [.ref c.cells 0]) (by simp) (by simp) (fun t _ => wide1_spec t c) hr) fun r hr => ?_
    subst hr
    simp

theorem fieldB_eq (c : Con) (n : Needs) : fieldB c n = (decide (¬ ((if n.op then 0 else c.op) = 0 ∧ (if n.k then 0 else c.k) = 0 ∧ (if n.v then 0 else c.v) = 0 ∧ (if n.x then 0 else c.x) = 0 ∧ (if n.y then 0 else c.y) = 0)) || (!n.terms && decide (0 < c.terms.length)) || (!n.xs && decide (0 < c.xs.length)) || (!n.table && decide (0 < c.table.length)) || (!n.rows && decide (0 < c.rows.length))) := by
  have key : ((!n.op && decide (c.op ≠ 0)) || (!n.k && decide (c.k ≠ 0)) || (!n.v && decide (c.v ≠ 0)) || (!n.x && decide (c.x ≠ 0)) || (!n.y && decide (c.y ≠ 0))) = decide (¬ ((if n.op then 0 else c.op) = 0 ∧ (if n.k then 0 else c.k) = 0 ∧ (if n.v then 0 else c.v) = 0 ∧ (if n.x then 0 else c.x) = 0 ∧ (if n.y then 0 else c.y) = 0)) := by
    cases n.op <;> cases n.k <;> cases n.v <;> cases n.x <;> cases n.y <;> rw [Bool.eq_iff_iff] <;> simp <;> omega
  unfold fieldB
  rw [key]

theorem field_spec (c : Con) (n : Needs) (f : FuncId) : Pf Try.prog model_field.id [.agg c.cells, .agg (n.cells f)] (.bool (fieldB c n)) := by
  refine DC.of model_field.ok (by simp) ?_
  unfold model_field.ir
  have hc : (V.agg c.cells).sized [] 10 := by simp [Con.cells, vTerms, vInts, vIntss]
  refine vc_cut (fun s => gt s.sl 2 = .ptr 0 1 0 0 ∧ gt s.sl 3 = .ptr 1 1 0 0 ∧ s.hp = [.mem false [] [c.cells], .mem false [] [n.cells f]]) (by simp [Con.cells, vTerms, vInts, vIntss, Needs.cells]) ?_
  rintro ⟨sl, hp, bs⟩ ⟨h2, h3, rfl⟩
  refine vc_cut (fun s => gt s.sl 2 = .ptr 0 1 0 0 ∧ gt s.sl 3 = .ptr 1 1 0 0 ∧ gt s.sl 5 = .ptr 2 1 0 0 ∧ s.hp = [.mem false [] [c.cells], .mem false [] [n.cells f], .mem false [] [[V.i c.op, V.i c.k, V.i c.v, V.i c.x, V.i c.y]]]) (by simp [h2, h3, Con.cells, vTerms, vInts, vIntss, Needs.cells]) ?_
  rintro ⟨sl, hp, bs⟩ ⟨h2, h3, h5, rfl⟩
  have key : ∀ (o k v x y : Int), o = (if n.op then 0 else c.op) → True := fun _ _ _ _ _ _ => trivial
  refine vc_cut (fun s => gt s.sl 2 = .ptr 0 1 0 0 ∧ gt s.sl 3 = .ptr 1 1 0 0 ∧ gt s.sl 5 = .ptr 2 1 0 0 ∧ s.hp = [.mem false [] [c.cells], .mem false [] [n.cells f], .mem false [] [[V.i (if n.op then 0 else c.op), V.i c.k, V.i c.v, V.i c.x, V.i c.y]]]) (by cases hb : n.op <;> simp [h2, h3, h5, Con.cells, vTerms, vInts, vIntss, Needs.cells, hb]) ?_
  rintro ⟨sl, hp, bs⟩ ⟨h2, h3, h5, rfl⟩
  refine vc_cut (fun s => gt s.sl 2 = .ptr 0 1 0 0 ∧ gt s.sl 3 = .ptr 1 1 0 0 ∧ gt s.sl 5 = .ptr 2 1 0 0 ∧ s.hp = [.mem false [] [c.cells], .mem false [] [n.cells f], .mem false [] [[V.i (if n.op then 0 else c.op), V.i c.k, V.i (if n.v then 0 else c.v), V.i c.x, V.i c.y]]]) (by cases hb : n.v <;> simp [h2, h3, h5, Con.cells, vTerms, vInts, vIntss, Needs.cells, hb]) ?_
  rintro ⟨sl, hp, bs⟩ ⟨h2, h3, h5, rfl⟩
  refine vc_cut (fun s => gt s.sl 2 = .ptr 0 1 0 0 ∧ gt s.sl 3 = .ptr 1 1 0 0 ∧ gt s.sl 5 = .ptr 2 1 0 0 ∧ s.hp = [.mem false [] [c.cells], .mem false [] [n.cells f], .mem false [] [[V.i (if n.op then 0 else c.op), V.i (if n.k then 0 else c.k), V.i (if n.v then 0 else c.v), V.i c.x, V.i c.y]]]) (by cases hb : n.k <;> simp [h2, h3, h5, Con.cells, vTerms, vInts, vIntss, Needs.cells, hb]) ?_
  rintro ⟨sl, hp, bs⟩ ⟨h2, h3, h5, rfl⟩
  refine vc_cut (fun s => gt s.sl 2 = .ptr 0 1 0 0 ∧ gt s.sl 3 = .ptr 1 1 0 0 ∧ gt s.sl 5 = .ptr 2 1 0 0 ∧ s.hp = [.mem false [] [c.cells], .mem false [] [n.cells f], .mem false [] [[V.i (if n.op then 0 else c.op), V.i (if n.k then 0 else c.k), V.i (if n.v then 0 else c.v), V.i (if n.x then 0 else c.x), V.i c.y]]]) (by cases hb : n.x <;> simp [h2, h3, h5, Con.cells, vTerms, vInts, vIntss, Needs.cells, hb]) ?_
  rintro ⟨sl, hp, bs⟩ ⟨h2, h3, h5, rfl⟩
  refine vc_cut (fun s => gt s.sl 2 = .ptr 0 1 0 0 ∧ gt s.sl 3 = .ptr 1 1 0 0 ∧ gt s.sl 5 = .ptr 2 1 0 0 ∧ s.hp = [.mem false [] [c.cells], .mem false [] [n.cells f], .mem false [] [[V.i (if n.op then 0 else c.op), V.i (if n.k then 0 else c.k), V.i (if n.v then 0 else c.v), V.i (if n.x then 0 else c.x), V.i (if n.y then 0 else c.y)]]]) (by cases hb : n.y <;> simp [h2, h3, h5, Con.cells, vTerms, vInts, vIntss, Needs.cells, hb]) ?_
  rintro ⟨sl, hp, bs⟩ ⟨h2, h3, h5, rfl⟩
  have hf := fieldB_eq c n
  rw [hf]
  generalize (if n.op then 0 else c.op) = o
  generalize (if n.k then 0 else c.k) = k
  generalize (if n.v then 0 else c.v) = v
  generalize (if n.x then 0 else c.x) = x
  generalize (if n.y then 0 else c.y) = y
  generalize hb0 : decide (¬ (o = 0 ∧ k = 0 ∧ v = 0 ∧ x = 0 ∧ y = 0)) = b0
  refine vc_cut (fun s => gt s.sl 4 = .bool (b0 || (!n.terms && decide (0 < c.terms.length)) || (!n.xs && decide (0 < c.xs.length)) || (!n.table && decide (0 < c.table.length)) || (!n.rows && decide (0 < c.rows.length)))) (vc_reg_of ?_) ?_
  · have e : ∀ b0 b : Bool, (b0 || b) = if b0 then true else b := fun b0 b => by cases b0 <;> rfl
    refine vcIts_cut 4 (fun s => gt s.sl 2 = .ptr 0 1 0 0 ∧ gt s.sl 3 = .ptr 1 1 0 0 ∧ gt s.sl 35 = .bool b0 ∧ s.hp = [.mem false [] [c.cells], .mem false [] [n.cells f], .mem false [] [[V.i o, V.i k, V.i v, V.i x, V.i y]]]) ?_ ?_
    · simp [h2, h3, h5, ← hb0]
      rfl
    rintro ⟨sl, hp, bs⟩ ⟨h2, h3, h4, rfl⟩
    refine vcIts_cut 11 (fun s => gt s.sl 2 = .ptr 0 1 0 0 ∧ gt s.sl 3 = .ptr 1 1 0 0 ∧ gt s.sl 46 = .bool (b0 || (!n.terms && decide (0 < c.terms.length))) ∧ s.hp = [.mem false [] [c.cells], .mem false [] [n.cells f], .mem false [] [[V.i o, V.i k, V.i v, V.i x, V.i y]]]) ?_ ?_
    · cases b0 <;> cases hn : n.terms <;> simp [h2, h3, h4, hn, Con.cells, vTerms, vInts, vIntss, Needs.cells]
    generalize (b0 || (!n.terms && decide (0 < c.terms.length))) = b1
    rintro ⟨sl, hp, bs⟩ ⟨h2, h3, h4, rfl⟩
    refine vcIts_cut 11 (fun s => gt s.sl 2 = .ptr 0 1 0 0 ∧ gt s.sl 3 = .ptr 1 1 0 0 ∧ gt s.sl 57 = .bool (b1 || (!n.xs && decide (0 < c.xs.length))) ∧ s.hp = [.mem false [] [c.cells], .mem false [] [n.cells f], .mem false [] [[V.i o, V.i k, V.i v, V.i x, V.i y]]]) ?_ ?_
    · cases b1 <;> cases hn : n.xs <;> simp [h2, h3, h4, hn, Con.cells, vTerms, vInts, vIntss, Needs.cells]
    generalize (b1 || (!n.xs && decide (0 < c.xs.length))) = b2
    rintro ⟨sl, hp, bs⟩ ⟨h2, h3, h4, rfl⟩
    refine vcIts_cut 11 (fun s => gt s.sl 2 = .ptr 0 1 0 0 ∧ gt s.sl 3 = .ptr 1 1 0 0 ∧ gt s.sl 68 = .bool (b2 || (!n.table && decide (0 < c.table.length))) ∧ s.hp = [.mem false [] [c.cells], .mem false [] [n.cells f], .mem false [] [[V.i o, V.i k, V.i v, V.i x, V.i y]]]) ?_ ?_
    · cases b2 <;> cases hn : n.table <;> simp [h2, h3, h4, hn, Con.cells, vTerms, vInts, vIntss, Needs.cells]
    generalize (b2 || (!n.table && decide (0 < c.table.length))) = b3
    rintro ⟨sl, hp, bs⟩ ⟨h2, h3, h4, rfl⟩
    cases b3 <;> cases hn : n.rows <;> simp [h2, h3, h4, hn, Con.cells, vTerms, vInts, vIntss, Needs.cells]
  · rintro ⟨sl, hp, bs⟩ h4
    simp [h4, model_field.rs]
end Go.Abs.G



namespace Go.Abs.G
open Go.Proofs
attribute [local simp] I.vc sub merge place
set_option linter.unusedVariables false

def kindTab : List (Int × Needs × FuncId) := [
  (1, ⟨true, false, false, false, false, false, true, true, false⟩, model_lin.id),
  (2, ⟨false, false, false, false, true, true, true, false, false⟩, model_kinds_1.id),
  (3, ⟨false, true, false, false, false, false, false, false, false⟩, model_allDiff.id),
  (4, ⟨false, false, true, false, true, true, false, false, false⟩, model_element.id),
  (5, ⟨false, true, false, false, false, true, false, false, false⟩, model_kinds_2.id),
  (6, ⟨false, true, false, false, false, true, false, false, false⟩, model_kinds_3.id),
  (7, ⟨true, false, false, false, true, false, true, false, false⟩, model_reif.id),
  (8, ⟨false, true, false, true, false, false, false, false, false⟩, model_table.id),
  (9, ⟨false, true, false, false, false, false, true, true, true⟩, model_count.id)]
def kindEnts : List (V × V) := kindTab.map fun e => (V.i e.1, .agg (e.2.1.cells e.2.2))
def kindsV : V := .mview kindEnts

theorem kindEnts_key : ∀ e ∈ kindEnts, e.1.isKey .i64 = true := by
  intro e he
  obtain ⟨t, _, rfl⟩ := List.mem_map.1 he
  rfl

theorem kindEnts_get (k : Int) : (needs k = none ∧ getE kindEnts k = none) ∨ ∃ n f, needs k = some n ∧ (k, n, f) ∈ kindTab ∧ getE kindEnts k = some (.agg (n.cells f)) := by
  by_cases h1 : k = 1
  · subst h1; exact .inr ⟨_, _, rfl, by simp [kindTab], rfl⟩
  by_cases h2 : k = 2
  · subst h2; exact .inr ⟨_, _, rfl, by simp [kindTab], rfl⟩
  by_cases h3 : k = 3
  · subst h3; exact .inr ⟨_, _, rfl, by simp [kindTab], rfl⟩
  by_cases h4 : k = 4
  · subst h4; exact .inr ⟨_, _, rfl, by simp [kindTab], rfl⟩
  by_cases h5 : k = 5
  · subst h5; exact .inr ⟨_, _, rfl, by simp [kindTab], rfl⟩
  by_cases h6 : k = 6
  · subst h6; exact .inr ⟨_, _, rfl, by simp [kindTab], rfl⟩
  by_cases h7 : k = 7
  · subst h7; exact .inr ⟨_, _, rfl, by simp [kindTab], rfl⟩
  by_cases h8 : k = 8
  · subst h8; exact .inr ⟨_, _, rfl, by simp [kindTab], rfl⟩
  by_cases h9 : k = 9
  · subst h9; exact .inr ⟨_, _, rfl, by simp [kindTab], rfl⟩
  · refine .inl ⟨by simp [needs, *], ?_⟩
    simp [kindEnts, kindTab, getE]
    omega

theorem kinds_spec : Pf Try.prog model_kinds.id [] kindsV := by
  refine DC.of model_kinds.ok (by simp) ?_
  simp [model_kinds.ir, model_kinds.rs, kindsV, kindEnts, kindTab, Needs.cells, V.isKey]

theorem con1_spec (x vars : Int) : Pf Try.prog model_con_1.id [V.i x, .ref [V.i vars] 0] (.bool (noB vars x)) := by
  refine DC.of model_con_1.ok (by simp) ?_
  by_cases h : x < 0 <;> simp [model_con_1.ir, model_con_1.rs, noB, h]

def zeroNeeds : List V := [.bool false, .bool false, .bool false, .bool false, .bool false, .bool false, .bool false, .bool false, .bool false, .a .nilFunc]

theorem con_look (c : Con) (vars : Int) : vc Try.prog (.reg 1 [.o 1 (.lt (some 12) (.fad (.tmp 2) 0)),
    .o 2 (.lt (some 13) (.ld false 1 (.tmp 12))),
    .o 0 (.call (some 11) model_kinds.id []),
    .o 3 (.lt (some 14) (.lkp true .i64 (.agg [.a (.bool false), .a (.bool false), .a (.bool false), .a (.bool false), .a (.bool false), .a (.bool false), .a (.bool false), .a (.bool false), .a (.bool false), .a (.nilFunc)]) (.tmp 11) (.tmp 13))),
    .o 4 (.lt (some 10) (.mov (.tmp 14))),
    .o 5 (.lt (some 15) (.ext (.tmp 10) 0)),
    .o 6 (.lt (some 16) (.ext (.tmp 10) 1)),
    .o 7 (.alloc (some 5) 0 10 [.a (.bool false), .a (.bool false), .a (.bool false), .a (.bool false), .a (.bool false), .a (.bool false), .a (.bool false), .a (.bool false), .a (.bool false), .a (.nilFunc)]),
    .o 8 (.store [] 10 (.tmp 5) (.tmp 15)),
    .o 9 (.lt (some 6) (.mov (.tmp 16))),
    .g (.keep [2, 3, 5, 6])]) (fun e s => match e with
      | .norm => gt s.sl 2 = .ptr 0 1 0 0 ∧ gt s.sl 3 = .ptr 1 1 0 0 ∧ gt s.sl 5 = .ptr 2 1 0 0 ∧ ((needs c.kind = none ∧ gt s.sl 6 = .bool false ∧ s.hp = [.mem false [] [c.cells], .mem false [] [[V.i vars]], .mem false [] [zeroNeeds]]) ∨
          ∃ n f, needs c.kind = some n ∧ gt s.sl 6 = .bool true ∧ s.hp = [.mem false [] [c.cells], .mem false [] [[V.i vars]], .mem false [] [n.cells f]])
      | _ => False) ⟨up (up e0 3 (.ptr 1 1 0 0)) 2 (.ptr 0 1 0 0), [.mem false [] [c.cells], .mem false [] [[V.i vars]]], 0⟩ := by
  simp [Con.cells, vTerms, vInts, vIntss]
  refine kinds_spec.use ?_
  have hk := kindEnts_key
  rcases kindEnts_get c.kind with ⟨h1, h2⟩ | ⟨n, f, h1, h2, h3⟩
  · simp [kindsV, h1, h2, zeroNeeds]
    exact ⟨fun a b h => hk _ h, rfl⟩
  · simp [kindsV, h1, h3, Needs.cells]
    exact ⟨fun a b h => hk _ h, rfl⟩

def conSt (c : Con) (vars : Int) (n : Needs) (f : FuncId) (s : St) : Prop :=
  gt s.sl 2 = .ptr 0 1 0 0 ∧ gt s.sl 3 = .ptr 1 1 0 0 ∧ gt s.sl 5 = .ptr 2 1 0 0 ∧ s.hp = [.mem false [] [c.cells], .mem false [] [[V.i vars]], .mem false [] [n.cells f]]

def conSt2 (c : Con) (vars : Int) (n : Needs) (f : FuncId) (s : St) : Prop :=
  gt s.sl 2 = .ptr 0 1 0 0 ∧ gt s.sl 5 = .ptr 2 1 0 0 ∧ gt s.sl 7 = .bool (badVarB vars c.terms) ∧ gt s.sl 8 = .bool (badCoefB c.terms) ∧ gt s.sl 9 = .fn (.func model_con_1.id) [] [.ptr 1 1 0 0] ∧
    s.hp = [.mem false [] [c.cells], .mem false [] [[V.i vars]], .mem false [] [n.cells f]]

theorem con_spec (c : Con) (vars : Int) (hc : okCon c) : Pf Try.prog model_con.id [.agg c.cells, V.i vars] (V.i (conB c vars)) := by
  have hm : (maxLen : Int) ≤ 9223372036854775807 := by decide
  obtain ⟨_, _, ⟨k3, _⟩, _, _, _, _, ⟨k8, k8'⟩, ⟨k9, k9'⟩, k10, k11⟩ := hc
  refine DC.of model_con.ok (by simp) ?_
  unfold model_con.ir
  refine vc_cut (fun s => s = ⟨up (up e0 3 (.ptr 1 1 0 0)) 2 (.ptr 0 1 0 0), [.mem false [] [c.cells], .mem false [] [[V.i vars]]], 0⟩) (by simp [Con.cells, vTerms, vInts, vIntss]) ?_
  rintro _ rfl
  refine vc_cut _ (vc_mono (fun e s hs => by cases e <;> first | exact hs | exact hs.elim) (con_look c vars)) ?_
  rintro ⟨sl, hp, bs⟩ ⟨h2, h3, h5, ⟨hn, h6, rfl⟩ | ⟨n, f, hn, h6, rfl⟩⟩
  · simp [h2, h3, h5, h6, hn, conB, model_con.rs]
  have hcB : conB c vars = conN c vars n := by simp [conB, hn]
  rw [hcB]
  -- the operator
  refine vc_cut (fun s => conSt c vars n f s ∧ (n.op && (decide (c.op < 1) || decide (3 < c.op))) = false) ?_ ?_
  · cases ho : n.op
    · simp [h2, h3, h5, h6, conSt, Needs.cells, ho, Con.cells, vTerms, vInts, vIntss]
    · by_cases h1 : c.op < 1
      · simp [h2, h3, h5, h6, conSt, Needs.cells, ho, Con.cells, vTerms, vInts, vIntss, h1, conN, model_con.rs]
      · by_cases h1' : 3 < c.op <;> simp [h2, h3, h5, h6, conSt, Needs.cells, ho, Con.cells, vTerms, vInts, vIntss, h1, h1', conN, model_con.rs] <;> omega
  rintro ⟨sl, hp, bs⟩ ⟨⟨h2, h3, h5, rfl⟩, b1⟩
  refine vc_cut (fun s => conSt c vars n f s ∧ gt s.sl 7 = .bool (badVarB vars c.terms) ∧ gt s.sl 8 = .bool (badCoefB c.terms)) ?_ ?_
  · simp [h2, h3, h5, Con.cells, vTerms, vInts, vIntss]
    refine (terms_spec c.terms vars k3).use ?_
    simp [conSt, Con.cells, vTerms, vInts, vIntss]
  rintro ⟨sl, hp, bs⟩ ⟨⟨h2, h3, h5, rfl⟩, h7, h8⟩
  refine vc_cut (fun s => conSt2 c vars n f s) ?_ ?_
  · simp [h2, h3, h5, h7, h8, conSt2]
  rintro ⟨sl, hp, bs⟩ ⟨h2, h5, h7, h8, h9, rfl⟩
  refine vc_cut (fun s => conN c vars n = 0) (vc_block_of ?_) ?_
  · refine vc_cut (fun s => conSt2 c vars n f s ∧ gt s.sl 41 = .bool (fieldB c n)) ?_ ?_
    · simp [h2, h5, Needs.cells, Con.cells, vTerms, vInts, vIntss]
      refine (field_spec c n f).use ?_
      simp [h2, h5, h7, h8, h9, conSt2, Needs.cells, Con.cells, vTerms, vInts, vIntss]
    rintro ⟨sl, hp, bs⟩ ⟨⟨h2, h5, h7, h8, h9, rfl⟩, h41⟩
    cases b2 : fieldB c n
    case true => simp [h41, b2, model_con.rs, conN, b1]
    rw [b2] at h41
    rw [vc_cond_false (show St.ev _ (.tmp 41) = _ from h41)]
    refine vc_cut (fun s => conSt2 c vars n f s ∧ gt s.sl 45 = .bool (!countsB n.terms c.terms.length || !countsB n.xs c.xs.length || !countsB n.table c.table.length || wideB c n)) ?_ ?_
    · simp [h2, h5, h7, h8, h9, Needs.cells, Con.cells, vTerms, vInts, vIntss]
      refine (counts_spec n.terms c.terms.length).use ?_
      cases countsB n.terms c.terms.length
      · simp [conSt2, h2, h5, h7, h8, h9, Needs.cells, Con.cells, vTerms, vInts, vIntss]
      simp [h2, h5, h7, h8, h9, Needs.cells, Con.cells, vTerms, vInts, vIntss]
      refine (counts_spec n.xs c.xs.length).use ?_
      cases countsB n.xs c.xs.length
      · simp [conSt2, h2, h5, h7, h8, h9, Needs.cells, Con.cells, vTerms, vInts, vIntss]
      simp [h2, h5, h7, h8, h9, Needs.cells, Con.cells, vTerms, vInts, vIntss]
      refine (counts_spec n.table c.table.length).use ?_
      cases countsB n.table c.table.length
      · simp [conSt2, h2, h5, h7, h8, h9, Needs.cells, Con.cells, vTerms, vInts, vIntss]
      simp [h2, h5, h7, h8, h9, Needs.cells, Con.cells, vTerms, vInts, vIntss]
      refine (wide_spec c n f k10).use ?_
      simp [conSt2, h2, h5, h7, h8, h9, Needs.cells, Con.cells, vTerms, vInts, vIntss]
    rintro ⟨sl, hp, bs⟩ ⟨⟨h2, h5, h7, h8, h9, rfl⟩, h45⟩
    cases b3 : (!countsB n.terms c.terms.length || !countsB n.xs c.xs.length || !countsB n.table c.table.length || wideB c n)
    case true => rw [b3] at h45; simp [h45, model_con.rs, conN, b1, b2, b3]
    rw [b3] at h45
    rw [vc_cond_false (show St.ev _ (.tmp 45) = _ from h45)]
    refine vc_cut (fun s => gt s.sl 2 = .ptr 0 1 0 0 ∧ gt s.sl 8 = .bool (badCoefB c.terms) ∧ s.hp = [.mem false [] [c.cells], .mem false [] [[V.i vars]], .mem false [] [n.cells f]] ∧
      gt s.sl 70 = .bool (badVarB vars c.terms || (n.x && noB vars c.x) || (n.y && noB vars c.y) || c.xs.any (noB vars))) ?_ ?_
    · cases b0 : badVarB vars c.terms
      case true => rw [b0] at h7; simp [h2, h5, h7, h8, h9, Needs.cells, Con.cells, vTerms, vInts, vIntss]
      rw [b0] at h7
      have last : DP Try.prog slices_ContainsFunc_Lint_int.id [vInts c.xs, .fn (.func model_con_1.id) [] [.ref [V.i vars] 0]] fun r => r = .bool (c.xs.any (noB vars)) :=
        contains_int_spec (p := noB vars) (cap := [.ref [V.i vars] 0]) (by simp) (by simp) (fun t _ => con1_spec t vars) k8
      have last' : ∀ Q : V → Prop, Q (.bool (c.xs.any (noB vars))) → DP Try.prog slices_ContainsFunc_Lint_int.id [.view 1 (List.map (fun n => [V.i n]) c.xs), .fn (.func model_con_1.id) [] [.ref [V.i vars] 0]] Q := fun Q hq => DP.mono last fun r hr => by rw [hr]; exact hq
      have mid : ∀ b : Bool, (n.y && noB vars c.y) = b → True := fun _ _ => trivial
      cases hx : n.x <;> cases hy : n.y <;> simp [h2, h5, h7, h8, h9, Needs.cells, Con.cells, vTerms, vInts, vIntss, hx, hy]
      · exact last' _ (by simp)
      · refine (con1_spec c.y vars).use ?_
        cases noB vars c.y <;> simp
        exact last' _ (by simp)
      · refine (con1_spec c.x vars).use ?_
        cases noB vars c.x <;> simp
        exact last' _ (by simp)
      · refine (con1_spec c.x vars).use ?_
        cases noB vars c.x <;> simp
        refine (con1_spec c.y vars).use ?_
        cases noB vars c.y <;> simp
        exact last' _ (by simp)
    rintro ⟨sl, hp, bs⟩ ⟨h2, h8, rfl, h70⟩
    cases b4 : (badVarB vars c.terms || (n.x && noB vars c.x) || (n.y && noB vars c.y) || c.xs.any (noB vars))
    case true => rw [b4] at h70; simp [h70, model_con.rs, conN, b1, b2, b3, b4]
    rw [b4] at h70
    rw [vc_cond_false (show St.ev _ (.tmp 70) = _ from h70)]
    refine vc_cut (fun s => gt s.sl 2 = .ptr 0 1 0 0 ∧ gt s.sl 92 = .bool (badCoefB c.terms) ∧ s.hp = [.mem false [] [c.cells], .mem false [] [[V.i vars]], .mem false [] [n.cells f]]) (by simp [h2, h8]) ?_
    rintro ⟨sl, hp, bs⟩ ⟨h2, h92, rfl⟩
    cases b5 : badCoefB c.terms
    case true => simp [h92, model_con.rs, conN, b1, b2, b3, b4, b5]
    rw [b5] at h92
    rw [vc_cond_false (show St.ev _ (.tmp 92) = _ from h92)]
    refine vc_cut (fun s => gt s.sl 94 = .bool (!withinB c.k 1000000000 || !withinB c.v 1000000000 || greatB c.table || c.rows.any greatB)) ?_ ?_
    · simp [h2, Needs.cells, Con.cells, vTerms, vInts, vIntss]
      refine (within_spec c.k 1000000000 (by decide) (by decide)).use ?_
      cases withinB c.k 1000000000
      · simp
      simp [h2, Needs.cells, Con.cells, vTerms, vInts, vIntss]
      refine (within_spec c.v 1000000000 (by decide) (by decide)).use ?_
      cases withinB c.v 1000000000
      · simp
      simp [h2, Needs.cells, Con.cells, vTerms, vInts, vIntss]
      refine (great_spec c.table k9).use ?_
      cases greatB c.table
      case true => simp
      simp [h2, Needs.cells, Con.cells, vTerms, vInts, vIntss]
      refine (contains_ints_spec (by simp) (by simp) (fun t ht => great_spec t (k11 t ht).1) k10).use ?_
      simp
    rintro ⟨sl, hp, bs⟩ h94
    cases b6 : (!withinB c.k 1000000000 || !withinB c.v 1000000000 || greatB c.table || c.rows.any greatB)
    case true => rw [b6] at h94; simp [h94, model_con.rs, conN, b1, b2, b3, b4, b5, b6]
    rw [b6] at h94
    simp [h94, conN, b1, b2, b3, b4, b5, b6]
  · rintro ⟨sl, hp, bs⟩ h0
    simp [h0, model_con.rs]
end Go.Abs.G



namespace Go.Abs.G
open Go.Proofs
attribute [local simp] I.vc sub merge place
set_option linter.unusedVariables false

theorem width_pos (s : ByteArray) (pos : Nat) : 1 ≤ (Utf8.decode s pos).2 := by
  unfold Utf8.decode
  simp only
  repeat' split
  all_goals simp

theorem nameFrom_step (s : ByteArray) (f pos : Nat) (h : pos < s.size) : nameFrom s (f + 1) pos = if !letterB (Utf8.decode s pos).1 && (decide (pos = 0) || decide ((Utf8.decode s pos).1 < 48) || decide (57 < (Utf8.decode s pos).1)) then false else nameFrom s f (pos + (Utf8.decode s pos).2) := by
  rw [nameFrom, if_pos h]

theorem nameFrom_end (s : ByteArray) (f pos : Nat) (h : ¬ pos < s.size) : nameFrom s f pos = true := by
  cases f with
  | zero => rfl
  | succ f => rw [nameFrom, if_neg h]

def sitLeft : Heap → Nat
  | [.sit s pos] => s.size - pos
  | _ => 0
attribute [simp] sitLeft

theorem name_spec (s : ByteArray) (hs : s.size ≤ maxLen) : Pf Try.prog model_isName.id [.str s] (.bool (nameB s)) := by
  have hm : (maxLen : Int) ≤ 9223372036854775807 := by decide
  refine DC.of model_isName.ok (by simp) ?_
  simp [model_isName.ir, model_isName.rs]
  refine WI.mono (Q := fun e st => (e = .exit 0 ∧ gt st.sl 0 = .str s ∧ nameFrom s (s.size + 1) 0 = true) ∨ (e = .ret ∧ gt st.sl 2 = .bool false ∧ nameFrom s (s.size + 1) 0 = false)) (WI.loop 1 (by simp) (fun st => ∃ pos f, gt st.sl 0 = .str s ∧ gt st.sl 7 = .ptr 0 0 0 0 ∧ st.hp = [.sit s pos] ∧ s.size < f + pos ∧ nameFrom s (s.size + 1) 0 = nameFrom s f pos) (fun st => sitLeft st.hp) ?_ ?_) ?_
  · exact ⟨0, s.size + 1, by simp⟩
  · rintro ⟨sl, hp, bs⟩ ⟨pos, f, h0, h7, rfl, hf, he⟩
    by_cases hp : pos < s.size
    · obtain ⟨f, rfl⟩ : ∃ g, f = g + 1 := ⟨f - 1, by omega⟩
      have hw := width_pos s pos
      rw [nameFrom_step s f pos hp] at he
      have hnm : pos = 0 ∨ 0 < pos := by omega
      generalize hd : Utf8.decode s pos = d at he hw
      obtain ⟨r, wd⟩ := d
      simp only at he hw
      unfold model_isName.b0
      refine vc_cut (fun st => gt st.sl 0 = .str s ∧ gt st.sl 7 = .ptr 0 0 0 0 ∧ gt st.sl 8 = .tup [.bool true, V.i pos, .int .i32 r] ∧ gt st.sl 9 = .bool true ∧ st.hp = [.sit s (pos + wd)]) (by simp [h0, h7, hp, hd]) ?_
      rintro ⟨sl, _, bs⟩ ⟨h0, h7, h8, h9, rfl⟩
      refine vc_cut (fun st => gt st.sl 0 = .str s ∧ gt st.sl 7 = .ptr 0 0 0 0 ∧ gt st.sl 8 = .tup [.bool true, V.i pos, .int .i32 r] ∧ st.hp = [.sit s (pos + wd)]) (by simp [h0, h7, h8, h9]) ?_
      rintro ⟨sl, _, bs⟩ ⟨h0, h7, h8, rfl⟩
      refine vc_block_of (vc_cut (fun st => gt st.sl 0 = .str s ∧ gt st.sl 7 = .ptr 0 0 0 0 ∧ gt st.sl 3 = V.i pos ∧ gt st.sl 4 = .int .i32 r ∧ st.hp = [.sit s (pos + wd)]) (by simp [h0, h7, h8]) ?_)
      rintro ⟨sl, _, bs⟩ ⟨h0, h7, h3, h4, rfl⟩
      refine vc_cut (fun st => gt st.sl 0 = .str s ∧ gt st.sl 7 = .ptr 0 0 0 0 ∧ gt st.sl 3 = V.i pos ∧ gt st.sl 4 = .int .i32 r ∧ gt st.sl 5 = .bool (letterB r) ∧ st.hp = [.sit s (pos + wd)]) ?_ ?_
      · unfold letterB
        have i1 : ((97 : Int) ≤ (r : Int)) = (97 ≤ r) := by apply propext; omega
        have i2 : ((r : Int) ≤ 122) = (r ≤ 122) := by apply propext; omega
        have i3 : ((65 : Int) ≤ (r : Int)) = (65 ≤ r) := by apply propext; omega
        have i4 : ((r : Int) ≤ 90) = (r ≤ 90) := by apply propext; omega
        have i5 : ((r : Int) == 95) = decide (r = 95) := by rw [Bool.eq_iff_iff]; simp; omega
        by_cases a1 : 97 ≤ r <;> by_cases a2 : r ≤ 122 <;> by_cases a3 : 65 ≤ r <;> by_cases a4 : r ≤ 90 <;> first | (exfalso; omega) | simp [h0, h7, h3, h4, i1, i2, i3, i4, i5, a1, a2, a3, a4]
      rintro ⟨sl, _, bs⟩ ⟨h0, h7, h3, h4, h5, rfl⟩
      refine vc_cut (fun st => gt st.sl 0 = .str s ∧ gt st.sl 7 = .ptr 0 0 0 0 ∧ gt st.sl 43 = .bool (!letterB r && (decide (pos = 0) || decide (r < 48) || decide (57 < r))) ∧ st.hp = [.sit s (pos + wd)]) ?_ ?_
      · have i1 : ((r : Int) < 48) = (r < 48) := by apply propext; omega
        have i2 : ((57 : Int) < (r : Int)) = (57 < r) := by apply propext; omega
        have i3 : ((pos : Int) = 0) = (pos = 0) := by apply propext; omega
        cases hl : letterB r <;> rw [hl] at h5 <;> by_cases a1 : pos = 0 <;> by_cases a2 : r < 48 <;> simp [h0, h7, h3, h4, h5, i1, i2, i3, a1, a2]
      rintro ⟨sl, _, bs⟩ ⟨h0, h7, h43, rfl⟩
      cases hb : (!letterB r && (decide (pos = 0) || decide (r < 48) || decide (57 < r)))
      · rw [hb] at h43 he
        simp [h0, h7, h43]
        exact ⟨⟨f, by omega, by simpa using he⟩, by omega⟩
      · rw [hb] at h43 he
        simp [h0, h7, h43]
        simpa using he
    · rw [nameFrom_end s f pos hp] at he
      simp [model_isName.b0, h0, h7, hp, he]
  · rintro e ⟨sl, hp, bs⟩ (⟨rfl, h0, he⟩ | ⟨rfl, h2, he⟩)
    · by_cases h1 : 1 ≤ s.size
      · have h1' : (1 : Int) ≤ s.size := by omega
        simp [h0, nameB, he, h1, h1']
        omega
      · have h1' : ¬ (1 : Int) ≤ s.size := by omega
        simp [h0, nameB, he, h1, h1']
    · simp [h2, nameB, he]

theorem goal_spec (m : Model) (hl : m.goal.length ≤ maxLen) : Pf Try.prog model_goal.id [.agg m.cells] (V.i (goalB m)) := by
  refine DC.of model_goal.ok (by simp) ?_
  simp [model_goal.ir, model_goal.rs, Model.cells, vVars, vCons, vTerms]
  refine (terms_spec m.goal m.vars.length hl).use ?_
  simp
  by_cases h0 : m.goal = []
  · cases hg : m.hasGoal
    · simp [h0, goalB, hg]
      refine (counts_spec false 0).use ?_
      cases countsB false 0 <;> simp
      simp [badVarB, badCoefB]
    · simp [h0, goalB, hg]
      refine (counts_spec true 0).use ?_
      cases hc : countsB true 0 <;> simp
      all_goals (simp [countsB] at hc)
  · have h1 : 0 < m.goal.length := List.length_pos_iff.2 h0
    have h0' : (0 : Int) < m.goal.length := by omega
    cases hg : m.hasGoal
    · simp [h0, goalB, hg]
    · simp [h0, goalB, hg]
      refine (counts_spec true m.goal.length).use ?_
      cases countsB true m.goal.length <;> simp
      cases badVarB m.vars.length m.goal <;> simp

theorem variable_spec (l : List Var) (i : Nat) (h : i < l.length) (hl : l.length ≤ maxLen) (hv : okVar l[i]) : Pf Try.prog model_variable.id [vVars l, V.i i] (V.i (varB l i l[i])) := by
  have hm : (maxLen : Int) ≤ 9223372036854775807 := by decide
  refine DC.of model_variable.ok (by simp) ?_
  unfold model_variable.ir
  refine vc_cut (fun s => gt s.sl 0 = vVars l ∧ gt s.sl 1 = V.i i ∧ s.hp = []) (by simp) ?_
  rintro ⟨sl, hp, bs⟩ ⟨h0, h1, rfl⟩
  refine vc_cut (fun s => gt s.sl 0 = vVars l ∧ gt s.sl 1 = V.i i ∧ gt s.sl 5 = .ptr 0 1 0 0 ∧ s.hp = [.mem false [] [l[i].cells]]) (by simp [h0, h1, vVars, h, Var.cells]) ?_
  rintro ⟨sl, hp, bs⟩ ⟨h0, h1, h5, rfl⟩
  generalize hv' : l[i] = v at *
  obtain ⟨hv1, _, _⟩ := hv
  have hi : (i : Int) ≤ l.length := by omega
  have htk : List.take i (List.map Var.cells l) = List.map Var.cells (l.take i) := List.map_take.symm
  refine vc_cut (fun s => gt s.sl 5 = .ptr 0 1 0 0 ∧ s.hp = [.mem false [] [v.cells]] ∧ nameB v.name = true ∧ ((l.take i).any fun w => decide (w.name = v.name)) = false) ?_ ?_
  · simp [h0, h1, h5, Var.cells]
    refine (name_spec v.name hv1).use ?_
    cases hn : nameB v.name
    · simp [varB, hn, model_variable.rs]
    simp [h0, h1, h5, Var.cells, vVars, hi]
    rw [htk]
    refine DP.mono (contains_var_spec (p := fun w => decide (w.name = v.name)) (cap := [.ref v.cells 0]) (l := l.take i) (by simp) (by simp) (fun t _ => variable1_spec t v) (by simp; omega)) fun r hr => ?_
    subst hr
    cases ha : ((l.take i).any fun w => decide (w.name = v.name))
    · simp [ha, Var.cells]
      simpa using ha
    · simp [varB, hn, ha, model_variable.rs]
  rintro ⟨sl, hp, bs⟩ ⟨h5, rfl, b1, b2⟩
  have hb : varB l i v = if !withinB v.lo 1000000000 || !withinB v.hi 1000000000 || decide (v.hi < v.lo) || decide (64 ≤ v.hi - v.lo) then 42 else 0 := by
    unfold varB; rw [b1, b2]; rfl
  rw [hb]
  refine vc_cut (fun s => (!withinB v.lo 1000000000 || !withinB v.hi 1000000000 || decide (v.hi < v.lo) || decide (64 ≤ v.hi - v.lo)) = false) ?_ ?_
  · simp [h5, Var.cells]
    refine (within_spec v.lo 1000000000 (by decide) (by decide)).use ?_
    cases w1 : withinB v.lo 1000000000
    · simp [model_variable.rs]
    simp [h5, Var.cells]
    refine (within_spec v.hi 1000000000 (by decide) (by decide)).use ?_
    cases w2 : withinB v.hi 1000000000
    · simp [model_variable.rs]
    unfold withinB at w1 w2
    simp at w1 w2
    have hw : IntKind.i64.wrap (v.hi - v.lo) = v.hi - v.lo := by rw [wrap64] <;> omega
    by_cases hlt : v.hi < v.lo
    · simp [hlt, Int.not_le.2 hlt, model_variable.rs, Var.cells]
    · by_cases hge : 64 ≤ v.hi - v.lo <;> simp [hlt, hw, hge, model_variable.rs, Var.cells] <;> omega
  · rintro ⟨sl, hp, bs⟩ hb
    rw [hb]
    simp [model_variable.rs]
end Go.Abs.G



namespace Go.Abs.G
open Go.Proofs
attribute [local simp] I.vc sub merge place
set_option linter.unusedVariables false
set_option linter.unusedSimpArgs false

theorem firstBad_drop {α : Type} (f : Nat → α → Int) {l : List α} {i : Nat} (h : i < l.length) : firstBad f i (l.drop i) = if f i l[i] = 0 then firstBad f (i + 1) (l.drop (i + 1)) else some (i, f i l[i]) := by
  rw [List.drop_eq_getElem_cons h]; rfl

theorem check_spec (m : Model) (hm' : okModel m) : Pf Try.prog model_Check.id [.agg m.cells] (.tup [V.i (checkB m).1, V.i (checkB m).2]) := by
  have hm : (maxLen : Int) ≤ 9223372036854775807 := by decide
  obtain ⟨⟨hv, hv'⟩, ⟨hc, hc'⟩, hg, _⟩ := hm'
  refine DC.of model_Check.ok (by simp) ?_
  unfold model_Check.ir
  refine vc_cut (fun s => gt s.sl 1 = .ptr 0 1 0 0 ∧ s.hp = [.mem false [] [m.cells]]) (by simp [Model.cells, vVars, vCons, vTerms]) ?_
  rintro ⟨sl, hp, bs⟩ ⟨h1, rfl⟩
  refine vc_cut (fun s => gt s.sl 1 = .ptr 0 1 0 0 ∧ s.hp = [.mem false [] [m.cells]] ∧ ¬ (m.vars.length = 0 ∨ 32 < m.vars.length)) ?_ ?_
  · by_cases l0 : m.vars = []
    · simp [h1, Model.cells, vVars, vCons, vTerms, l0, checkB, model_Check.rs]
    · have l0' : ¬ m.vars.length = 0 := by simpa using l0
      have l0'' : ¬ (m.vars.length : Int) = 0 := by omega
      by_cases l1 : 32 < m.vars.length
      · have l1' : (32 : Int) < m.vars.length := by omega
        simp [h1, Model.cells, vVars, vCons, vTerms, l0, l1, l1', checkB, model_Check.rs]
      · have l1' : ¬ (32 : Int) < m.vars.length := by omega
        simp [h1, Model.cells, vVars, vCons, vTerms, l0, l1, l1']
  rintro ⟨sl, hp, bs⟩ ⟨h1, rfl, hn⟩
  refine vc_cut (fun s => gt s.sl 1 = .ptr 0 1 0 0 ∧ s.hp = [.mem false [] [m.cells]] ∧ firstBad (varB m.vars) 0 m.vars = none) ?_ ?_
  · simp [h1, Model.cells, vVars, vCons, vTerms]
    refine WI.mono (Q := fun e s => (e = .exit 0 ∧ gt s.sl 1 = .ptr 0 1 0 0 ∧ s.hp = [.mem false [] [m.cells]] ∧ firstBad (varB m.vars) 0 m.vars = none) ∨ (e = .ret ∧ ∃ (i : Nat) (r : Int), firstBad (varB m.vars) 0 m.vars = some (i, r) ∧ gt s.sl 2 = V.i i ∧ gt s.sl 3 = V.i r)) (WI.loop 1 (by simp) (fun s => ∃ i, i ≤ m.vars.length ∧ gt s.sl 1 = .ptr 0 1 0 0 ∧ gt s.sl 22 = V.i m.vars.length ∧ gt s.sl 23 = V.i i ∧ s.hp = [.mem false [] [m.cells]] ∧ firstBad (varB m.vars) 0 m.vars = firstBad (varB m.vars) i (m.vars.drop i)) (fun s => (m.vars.length - (gt s.sl 23).num).toNat) ?_ ?_) ?_
    · exact ⟨0, by simp [h1, Model.cells, vVars, vCons, vTerms]⟩
    · rintro ⟨sl, hp, bs⟩ ⟨i, hi, h1, h22, h23, rfl, he⟩
      by_cases hil : i < m.vars.length
      · simp [model_Check.b0, h1, h22, h23, hil, Model.cells, vVars, vCons, vTerms]
        refine (variable_spec m.vars i hil hv (hv' _ (List.getElem_mem hil))).use ?_
        rw [firstBad_drop _ hil] at he
        have hw : IntKind.i64.wrap ((i : Int) + 1) = ((i + 1 : Nat) : Int) := by rw [wrap64] <;> omega
        by_cases hb : varB m.vars i m.vars[i] = 0
        · rw [if_pos hb] at he
          simp [hb, hw, Model.cells, vVars, vCons, vTerms]
          exact ⟨⟨i + 1, by omega, by omega, he⟩, by omega⟩
        · rw [if_neg hb] at he
          simp [hb, he]
      · obtain rfl : i = m.vars.length := by omega
        rw [List.drop_length] at he
        simp [model_Check.b0, h1, h22, h23, he, firstBad]
    · rintro e ⟨sl, hp, bs⟩ (⟨rfl, h1, rfl, he⟩ | ⟨rfl, i, r, he, h2, h3⟩)
      · simp [h1, he, Model.cells, vVars, vCons, vTerms]
      · have hC : checkB m = ((i : Int), r) := by unfold checkB; rw [if_neg hn, he]
        simp [h2, h3, hC, model_Check.rs]
  rintro ⟨sl, hp, bs⟩ ⟨h1, rfl, he1⟩
  refine vc_cut (fun s => gt s.sl 1 = .ptr 0 1 0 0 ∧ s.hp = [.mem false [] [m.cells]] ∧ ¬ 64 < m.cons.length) ?_ ?_
  · by_cases l1 : 64 < m.cons.length
    · have l1' : (64 : Int) < m.cons.length := by omega
      have hC : checkB m = ((m.vars.length : Int), 49) := by unfold checkB; rw [if_neg hn, he1]; simp only; rw [if_pos l1]
      simp [h1, Model.cells, vVars, vCons, vTerms, l1', hC, model_Check.rs]
    · have l1' : ¬ (64 : Int) < m.cons.length := by omega
      simp [h1, Model.cells, vVars, vCons, vTerms, l1, l1']
  rintro ⟨sl, hp, bs⟩ ⟨h1, rfl, hn2⟩
  refine vc_cut (fun s => gt s.sl 1 = .ptr 0 1 0 0 ∧ s.hp = [.mem false [] [m.cells]] ∧ firstBad (fun _ c => conB c m.vars.length) 0 m.cons = none) ?_ ?_
  · simp [h1, Model.cells, vVars, vCons, vTerms]
    refine WI.mono (Q := fun e s => (e = .exit 2 ∧ gt s.sl 1 = .ptr 0 1 0 0 ∧ s.hp = [.mem false [] [m.cells]] ∧ firstBad (fun _ c => conB c m.vars.length) 0 m.cons = none) ∨ (e = .ret ∧ ∃ (i : Nat) (r : Int), firstBad (fun _ c => conB c m.vars.length) 0 m.cons = some (i, r) ∧ gt s.sl 2 = V.i (m.vars.length + i) ∧ gt s.sl 3 = V.i r)) (WI.loop 1 (by simp) (fun s => ∃ i, i ≤ m.cons.length ∧ gt s.sl 1 = .ptr 0 1 0 0 ∧ gt s.sl 43 = vCons m.cons ∧ gt s.sl 44 = V.i m.cons.length ∧ gt s.sl 45 = V.i i ∧ s.hp = [.mem false [] [m.cells]] ∧ firstBad (fun _ c => conB c m.vars.length) 0 m.cons = firstBad (fun _ c => conB c m.vars.length) i (m.cons.drop i)) (fun s => (m.cons.length - (gt s.sl 45).num).toNat) ?_ ?_) ?_
    · exact ⟨0, by simp [h1, Model.cells, vVars, vCons, vTerms]⟩
    · rintro ⟨sl, hp, bs⟩ ⟨i, hi, h1, h43, h22, h23, rfl, he⟩
      by_cases hil : i < m.cons.length
      · simp [model_Check.b1, h1, h43, h22, h23, hil, Model.cells, vVars, vCons, vTerms, Con.cells, vInts, vIntss]
        refine (con_spec m.cons[i] m.vars.length (hc' _ (List.getElem_mem hil))).use ?_
        rw [firstBad_drop _ hil] at he
        have hw : IntKind.i64.wrap ((i : Int) + 1) = ((i + 1 : Nat) : Int) := by rw [wrap64] <;> omega
        have hw2 : IntKind.i64.wrap ((m.vars.length : Int) + i) = m.vars.length + i := by rw [wrap64] <;> omega
        by_cases hb : conB m.cons[i] m.vars.length = 0
        · rw [if_pos hb] at he
          simp [hb, hw, Model.cells, vVars, vCons, vTerms]
          exact ⟨⟨i + 1, by omega, by omega, he⟩, by omega⟩
        · rw [if_neg hb] at he
          simp [hb, he, hw2]
      · obtain rfl : i = m.cons.length := by omega
        rw [List.drop_length] at he
        simp [model_Check.b1, h1, h22, h23, he, firstBad]
    · rintro e ⟨sl, hp, bs⟩ (⟨rfl, h1, rfl, he⟩ | ⟨rfl, i, r, he, h2, h3⟩)
      · simp [h1, he, Model.cells, vVars, vCons, vTerms]
      · have hC : checkB m = ((m.vars.length : Int) + i, r) := by unfold checkB; rw [if_neg hn, he1]; simp only; rw [if_neg hn2, he]
        simp [h2, h3, hC, model_Check.rs]
  rintro ⟨sl, hp, bs⟩ ⟨h1, rfl, he2⟩
  simp [h1, Model.cells, vVars, vCons, vTerms]
  refine (goal_spec m hg).use ?_
  have hw2 : IntKind.i64.wrap ((m.vars.length : Int) + m.cons.length) = m.vars.length + m.cons.length := by rw [wrap64] <;> omega
  by_cases hb : goalB m = 0
  · have hC : checkB m = (0, 0) := by unfold checkB; rw [if_neg hn, he1]; simp only; rw [if_neg hn2, he2]; simp [hb]
    simp [hb, hC, model_Check.rs]
  · have hC : checkB m = ((m.vars.length : Int) + m.cons.length, goalB m) := by unfold checkB; rw [if_neg hn, he1]; simp only; rw [if_neg hn2, he2]; simp [hb]
    simp [hb, hC, hw2, model_Check.rs]

end Go.Abs.G



namespace Go.Abs.G
set_option linter.unusedVariables false
attribute [local simp] I.vc sub merge place

def clr (a j : Nat) : Nat := (BitVec.ofNat 32 a &&& ~~~(1#32 <<< j)).toNat
def sett (a j : Nat) : Nat := (BitVec.ofNat 32 a ||| (1#32 <<< j)).toNat

theorem clr_lt (a j : Nat) : clr a j < 4294967296 := BitVec.isLt _
theorem sett_lt (a j : Nat) : sett a j < 4294967296 := BitVec.isLt _

theorem shl_bit (j i : Nat) (hj : j < 32) : (1#32 <<< j).getLsbD i = decide (i = j) := by
  rw [BitVec.getLsbD_shiftLeft]
  by_cases h : i = j
  · subst h; simp [hj]
  · by_cases h2 : i < j
    · simp [h2, h]
    · have : i - j ≠ 0 := by omega
      simp [h, BitVec.getLsbD_one, this]
theorem clr_bit {a j : Nat} (ha : a < 4294967296) (hj : j < 32) (i : Nat) : (clr a j).testBit i = (a.testBit i && !decide (i = j)) := by
  unfold clr
  rw [BitVec.testBit_toNat, BitVec.getLsbD_and, BitVec.getLsbD_not, shl_bit j i hj, BitVec.getLsbD_ofNat]
  by_cases h : i < 32
  · simp [h]
  · have : a.testBit i = false := Nat.testBit_lt_two_pow (Nat.lt_of_lt_of_le (show a < 2 ^ 32 from ha) (Nat.pow_le_pow_right (by omega) (by omega : 32 ≤ i)))
    simp [h, this]
theorem sett_bit {a j : Nat} (ha : a < 4294967296) (hj : j < 32) (i : Nat) : (sett a j).testBit i = (a.testBit i || decide (i = j)) := by
  unfold sett
  rw [BitVec.testBit_toNat, BitVec.getLsbD_or, shl_bit j i hj, BitVec.getLsbD_ofNat]
  by_cases h : i < 32
  · simp [h]
  · have : a.testBit i = false := Nat.testBit_lt_two_pow (Nat.lt_of_lt_of_le (show a < 2 ^ 32 from ha) (Nat.pow_le_pow_right (by omega) (by omega : 32 ≤ i)))
    simp [h, this]
end Go.Abs.G


namespace Go.Abs.G
open Go.Proofs
set_option linter.unusedVariables false
set_option linter.unusedSimpArgs false
attribute [local simp] I.vc sub merge place

structure Dom where
  from' : Int
  width : Nat
  a : Nat
  b : Nat

abbrev V.w (n : Nat) : V := .a (.int .u32 n)
def Dom.row (d : Dom) : List V := [V.i d.from', V.i d.width, V.w d.a, V.w d.b]
def Dom.has (d : Dom) (i : Nat) : Bool := if i < 32 then d.a.testBit i else d.b.testBit (i - 32)
structure Dom.ok (d : Dom) : Prop where
  f : -1000000000 ≤ d.from' ∧ d.from' ≤ 1000000000
  w : d.width ≤ 64
  a : d.a < 4294967296
  b : d.b < 4294967296

end Go.Abs.G


namespace Go.Abs.G
open Go.Proofs
set_option linter.unusedVariables false
attribute [local simp] I.vc sub merge place
end Go.Abs.G


namespace Go.Abs.G
open Go.Proofs
set_option linter.unusedVariables false
attribute [local simp] I.vc sub merge place

def pop (n : Nat) : Nat := (List.range 32).countP n.testBit

end Go.Abs.G


namespace Go.Abs.G
open Go.Proofs
set_option linter.unusedVariables false
set_option linter.unusedSimpArgs false
attribute [local simp] I.vc sub merge place

def Dom.drop (d : Dom) (k : Nat) : Dom := if k < 32 then { d with a := clr d.a k } else { d with b := clr d.b (k - 32) }
def goesB (kind v x : Int) : Bool := if kind = 1 then decide (x < v) else if kind = 2 then decide (v < x) else decide (kind = 3) && decide (x = v)
end Go.Abs.G


namespace Go.Abs.G
open Go.Proofs
set_option linter.unusedVariables false
set_option linter.unusedSimpArgs false
attribute [local simp] I.vc sub merge place

def U (s : List Dom) (T : List (List Ce)) : Heap := [.mem false [1, 2] [[.own 1 4 0 s.length s.length, .own 2 1 0 T.length T.length]], .mem false [] (s.map Dom.row), .tree [] T]
structure StOk (s : List Dom) (T : List (List Ce)) : Prop where
  n : s.length ≤ 64
  k : T.length ≤ 1000000
  d : ∀ d ∈ s, d.ok
  t : ∀ f, Ce.renR f T = T
def isB (s : List Dom) (x : Int) : Bool := decide (0 ≤ x) && decide (x < s.length)

def Dom.size (d : Dom) : Nat := pop d.a + pop d.b
section
variable {s s' : List Dom} {T T' : List (List Ce)} {E : Heap}
@[simp] theorem U_len : (U s T).length = 3 := rfl
@[simp] theorem U_0 : (U s T)[0]? = some (.mem false [1, 2] [[.own 1 4 0 s.length s.length, .own 2 1 0 T.length T.length]]) := rfl
@[simp] theorem U_1 : (U s T)[1]? = some (.mem false [] (s.map Dom.row)) := rfl
@[simp] theorem U_2 : (U s T)[2]? = some (.tree [] T) := rfl
@[simp] theorem UE_0 : (U s T ++ E)[0]? = some (.mem false [1, 2] [[.own 1 4 0 s.length s.length, .own 2 1 0 T.length T.length]]) := rfl
@[simp] theorem UE_1 : (U s T ++ E)[1]? = some (.mem false [] (s.map Dom.row)) := rfl
@[simp] theorem UE_2 : (U s T ++ E)[2]? = some (.tree [] T) := rfl
@[simp] theorem U_clos : clos (U s T) 8 [0] = [0, 1, 2] := by simp [clos, addAll, O.refs, U]
@[simp] theorem UE_clos : clos (U s T ++ E) 8 [0] = [0, 1, 2] := by simp [clos, addAll, O.refs, U]
@[simp] theorem row_ren (f : Nat → Nat) (d : Dom) : V.renL f d.row = d.row := rfl
end
end Go.Abs.G


namespace Go.Abs.G
open Go.Proofs
set_option linter.unusedVariables false
set_option linter.unusedSimpArgs false
section
variable {s s' : List Dom} {T T' : List (List Ce)} {E : Heap}
@[simp] theorem U_clos1 : clos (U s T) 8 [1] = [1] := by simp [clos, addAll, O.refs, U]
end

theorem StOk.row {s : List Dom} {T : List (List Ce)} (hs : StOk s T) {x : Int} (h : isB s x = true) : ∃ i d, x = ((i : Nat) : Int) ∧ i < s.length ∧ s[i]? = some d ∧ d.ok ∧ (s.map Dom.row)[i]? = some d.row := by
  simp only [isB, Bool.and_eq_true, decide_eq_true_eq] at h
  have hlt : x.toNat < s.length := by omega
  exact ⟨x.toNat, s[x.toNat], by omega, hlt, by simp [hlt], hs.d _ (List.getElem_mem hlt), by simp [hlt]⟩

attribute [local simp] I.vc

end Go.Abs.G


namespace Go.Abs.G
open Go.Proofs
set_option linter.unusedVariables false
set_option linter.unusedSimpArgs false
attribute [local simp] I.vc
section
variable (d : Dom)
@[simp] theorem row_len : d.row.length = 4 := rfl
@[simp] theorem row_head : d.row.head? = some (V.i d.from') := rfl
@[simp] theorem row_0 : d.row[0]? = some (V.i d.from') := rfl
@[simp] theorem row_1 : d.row[1]? = some (V.i d.width) := rfl
@[simp] theorem row_2 : d.row[2]? = some (V.w d.a) := rfl
@[simp] theorem row_3 : d.row[3]? = some (V.w d.b) := rfl
@[simp] theorem row_0' (h) : d.row[0]'h = V.i d.from' := rfl
@[simp] theorem row_1' (h) : d.row[1]'h = V.i d.width := rfl
@[simp] theorem row_2' (h) : d.row[2]'h = V.w d.a := rfl
@[simp] theorem row_3' (h) : d.row[3]'h = V.w d.b := rfl
end
section
variable {s s' : List Dom} {T T' : List (List Ce)} {E : Heap}
@[simp] theorem UE_3 (o : O) : (U s T ++ (o :: E))[3]? = some o := rfl
@[simp] theorem UE_3' (o : O) (h) : (U s T ++ (o :: E))[3]'h = o := rfl
@[simp] theorem UE_0' (h) : (U s T ++ E)[0]'h = .mem false [1, 2] [[.own 1 4 0 s.length s.length, .own 2 1 0 T.length T.length]] := rfl
@[simp] theorem UE_1' (h) : (U s T ++ E)[1]'h = .mem false [] (s.map Dom.row) := rfl
@[simp] theorem UE_2' (h) : (U s T ++ E)[2]'h = .tree [] T := rfl
@[simp] theorem UE_4 (o o' : O) : (U s T ++ (o :: o' :: E))[4]? = some o' := rfl
@[simp] theorem UE_4' (o o' : O) (h) : (U s T ++ (o :: o' :: E))[4]'h = o' := rfl
@[simp] theorem UE_set3 (o o' : O) : (U s T ++ (o :: E)).set 3 o' = U s T ++ (o' :: E) := rfl
@[simp] theorem UE_set4 (o o1 o' : O) : (U s T ++ (o :: o1 :: E)).set 4 o' = U s T ++ (o :: o' :: E) := rfl
end

end Go.Abs.G

