import Derived.Test.YtkfpoacloidepaaAbsR
set_option linter.all false
/- Regions whose order Go leaves open. -/
namespace Go.Abs
set_option linter.unusedVariables false

def L.opds : L → List Operand
  | .mov x | .un _ x | .ld _ _ x | .nilc x | .fad x _ | .fld _ _ _ x | .ext x _ | .lenStr x | .lenSl x | .conv _ x | .mkif _ x | .eqN _ x | .lenMp x | .cvBS x | .eqZ _ _ x => [x]
  | .pick c a b => [c, a, b]
  | .bin _ x y | .eqB _ x y | .lkp _ _ _ x y | .eqD _ _ x y => [x, y]
  | .ixS _ x i | .ixA _ _ x i | .ixStr x i | .ixV _ _ _ x i => [x, i]
  | .lenArr _ => []
  | .build _ parts => parts.map (·.2.2)
  | .mkfn _ first cap => first ++ cap
  | .slStr x lo hi | .slSl _ x lo hi => x :: (lo.toList ++ hi.toList)
  | .mxm _ xs => xs

/-- The operands by which it looks into memory. -/
def L.hops : L → List Operand
  | .ld _ _ x | .nilc x | .fad x _ | .ixS _ x _ | .ixA _ _ x _ | .lenSl x | .slSl _ x _ _ | .eqN _ x | .lenMp x | .cvBS x | .eqZ _ _ x | .lkp _ _ _ x _ => [x]
  | .build _ parts => parts.map (·.2.2)
  | _ => []
def L.isLd : L → Bool
  | .ld .. | .lenMp _ | .cvBS _ | .lkp .. => true
  | _ => false

/-- What may be read in the one heap may be read in the other, and is the same: lengths but of the objects bl, what they hold but of the objects bc. -/
structure hle (bl bc : Nat → Prop) (H H' : Heap) : Prop where
  mem : ∀ id, (H.getD id .dead).isMem = true → (H'.getD id .dead).isMem = true
  len : ∀ id, (H.getD id .dead).isMem = true → ¬ bl id → (H'.getD id .dead).rows.length = (H.getD id .dead).rows.length
  row : ∀ id, (H.getD id .dead).isMem = true → ¬ bl id → ¬ bc id → (H'.getD id .dead).rows = (H.getD id .dead).rows
  map : ∀ id, (H.getD id .dead).isMap = true → (H'.getD id .dead).isMap = true
  ents : ∀ id, (H.getD id .dead).isMap = true → ¬ bl id → ¬ bc id → (H'.getD id .dead).ents = (H.getD id .dead).ents

theorem hle.refl (bl bc : Nat → Prop) (H : Heap) : hle bl bc H H := ⟨fun _ h => h, fun _ _ _ => rfl, fun _ _ _ _ => rfl, fun _ h => h, fun _ _ _ _ => rfl⟩

section
variable {H H' : Heap} {bl bc : Nat → Prop}

theorem okAt_le (h : hle bl bc H H') {x : V} (hx : ∀ k, x.oid = some k → ¬ bl k) (ho : okAt H x) : okAt H' x := by
  cases x <;> first | exact ho.elim | skip
  · obtain ⟨h1, h2, h3⟩ := ho
    exact ⟨h.mem _ h1, by rw [h.len _ h1 (hx _ rfl)]; exact h2, h3⟩
  · exact trivial

theorem cellsAt_le (h : hle bl bc H H') {x : V} (hx : ∀ k, x.oid = some k → ¬ bl k) (hx' : ∀ k, x.oid = some k → ¬ bc k) (ho : okAt H x) : cellsAt H' x = cellsAt H x := by
  cases x <;> first | exact ho.elim | skip
  · obtain ⟨h1, h2, h3⟩ := ho
    simp only [cellsAt]; rw [h.row _ h1 (hx _ rfl) (hx' _ rfl)]
  · rfl

theorem okSl_le (h : hle bl bc H H') {x : V} (hx : ∀ k, x.oid = some k → ¬ bl k) (ho : okSl H x) : okSl H' x := by
  unfold okSl at ho ⊢
  split at ho
  · obtain ⟨h1, h2⟩ := ho
    exact ⟨h.mem _ h1, by rw [h.len _ h1 (hx _ rfl)]; exact h2⟩
  · trivial
  · trivial
  · exact ho.elim

theorem one_le (h : hle bl bc H H') {x : V} (hx : ∀ k, x.oid = some k → ¬ bl k) (ho : x.one H) : x.one H' := by
  cases x <;> first | exact ho | skip
  · obtain ⟨h1, h2⟩ := ho
    exact ⟨h.mem _ h1, by rw [h.len _ h1 (hx _ rfl)]; exact h2⟩
  · obtain ⟨h1, h2⟩ := ho
    exact ⟨h.mem _ h1, by rw [h.len _ h1 (hx _ rfl)]; exact h2⟩
  · exact h.map _ ho

theorem sized_le (h : hle bl bc H H') {x : V} {n : Nat} (hx : ∀ k, x.oid = some k → ¬ bl k) (ho : x.sized H n) : x.sized H' n := by
  by_cases hagg : ∃ cs, x = .agg cs
  · obtain ⟨cs, rfl⟩ := hagg; exact ho
  · have : x.one H ∧ n = 1 := by cases x <;> first | exact ho | exact (hagg ⟨_, rfl⟩).elim
    have : x.one H' ∧ n = 1 := ⟨one_le h hx this.1, this.2⟩
    cases x <;> first | exact this | exact (hagg ⟨_, rfl⟩).elim

theorem okMp_le (h : hle bl bc H H') {x : V} (ho : okMp H x) : okMp H' x := by
  unfold okMp at ho ⊢
  split at ho <;> first | exact h.map _ ho | exact trivial | exact ho.elim

theorem ents_le (h : hle bl bc H H') {x : V} (hx : ∀ k, x.oid = some k → ¬ bl k) (hx' : ∀ k, x.oid = some k → ¬ bc k) (ho : okMp H x) : x.entsOf H' = x.entsOf H := by
  cases x <;> first | rfl | skip
  exact h.ents _ ho (hx _ rfl) (hx' _ rfl)

theorem rowsOf_le (h : hle bl bc H H') {x : V} (hx : ∀ k, x.oid = some k → ¬ bl k) (hx' : ∀ k, x.oid = some k → ¬ bc k) (ho : okSl H x) : x.rowsOf H' = x.rowsOf H := by
  cases x <;> first | rfl | skip
  · simp only [V.rowsOf]; rw [h.row _ ho.1 (hx _ rfl) (hx' _ rfl)]

theorem okZ_le (h : hle bl bc H H') {x : V} (hx : ∀ k, x.oid = some k → ¬ bl k) (ho : okZ H x) : okZ H' x := by
  cases x <;> first | trivial | skip
  · exact okAt_le h hx ho
  · exact h.map _ ho

theorem okNil_le (h : hle bl bc H H') {x : V} (hx : ∀ k, x.oid = some k → ¬ bl k) (ho : okNil H x) : okNil H' x := by
  unfold okNil at ho ⊢
  split at ho
  · trivial
  · exact okAt_le h hx ho

end

theorem optN_congr {st st' : St} {d : Int} {o : Option Operand} (h : ∀ x ∈ o.toList, st'.ev x = st.ev x) : optN st' d o = optN st d o := by
  cases o with
  | none => rfl
  | some x => simp only [optN]; rw [h x (by simp)]
theorem optP_congr {st st' : St} {o : Option Operand} (h : ∀ x ∈ o.toList, st'.ev x = st.ev x) : optP st' o ↔ optP st o := by
  cases o with
  | none => exact Iff.rfl
  | some x => simp only [optP]; rw [h x (by simp)]

/-- A light operation comes to the same where its operands are the same, and memory as far as it looks. -/
theorem L.stable {l : L} {st st' : St} {bl bc : Nat → Prop} (hev : ∀ x ∈ l.opds, st'.ev x = st.ev x) (hh : hle bl bc st.hp st'.hp) (hb : ∀ x ∈ l.hops, ∀ k, (st.ev x).oid = some k → ¬ bl k ∧ (l.isLd = true → ¬ bc k)) (hp : l.pre st) : l.pre st' ∧ l.val st' = l.val st := by
  cases l with
  | mov x => simp only [L.opds, List.mem_singleton, forall_eq] at hev; exact ⟨trivial, hev⟩
  | pick c a b =>
    simp only [L.opds, List.mem_cons, List.not_mem_nil, or_false, forall_eq_or_imp, forall_eq] at hev
    obtain ⟨h1, h2, h3⟩ := hev
    simp only [L.pre, L.val] at hp ⊢
    rw [h1, h2, h3]; exact ⟨hp, rfl⟩
  | bin op x y =>
    simp only [L.opds, List.mem_cons, List.not_mem_nil, or_false, forall_eq_or_imp, forall_eq] at hev
    obtain ⟨h1, h2⟩ := hev
    simp only [L.pre, L.val] at hp ⊢
    rw [h1, h2]; exact ⟨hp, rfl⟩
  | eqB neg x y =>
    simp only [L.opds, List.mem_cons, List.not_mem_nil, or_false, forall_eq_or_imp, forall_eq] at hev
    obtain ⟨h1, h2⟩ := hev
    simp only [L.pre, L.val] at hp ⊢
    rw [h1, h2]; exact ⟨hp, rfl⟩
  | eqN neg x =>
    simp only [L.opds, List.mem_singleton, forall_eq] at hev
    simp only [L.pre, L.val] at hp ⊢
    rw [hev]; exact ⟨⟨okSl_le hh (fun k e => (hb x (by simp [L.hops]) k e).1) hp.1, hp.2⟩, rfl⟩
  | un op x =>
    simp only [L.opds, List.mem_singleton, forall_eq] at hev
    simp only [L.pre, L.val] at hp ⊢
    rw [hev]; exact ⟨hp, rfl⟩
  | ld agg n x =>
    simp only [L.opds, List.mem_singleton, forall_eq] at hev
    simp only [L.pre, L.val, ldP, ldV] at hp ⊢
    rw [hev]
    have g1 := okAt_le hh (fun k e => (hb x (by simp [L.hops]) k e).1) hp.1
    have g2 := cellsAt_le hh (fun k e => (hb x (by simp [L.hops]) k e).1) (fun k e => (hb x (by simp [L.hops]) k e).2 rfl) hp.1
    rw [g2]
    exact ⟨⟨g1, hp.2⟩, rfl⟩
  | nilc x =>
    simp only [L.opds, List.mem_singleton, forall_eq] at hev
    simp only [L.pre, L.val] at hp ⊢
    rw [hev]; exact ⟨okNil_le hh (fun k e => (hb x (by simp [L.hops]) k e).1) hp, rfl⟩
  | fad x off =>
    simp only [L.opds, List.mem_singleton, forall_eq] at hev
    simp only [L.pre, L.val] at hp ⊢
    rw [hev]; exact ⟨okAt_le hh (fun k e => (hb x (by simp [L.hops]) k e).1) hp, rfl⟩
  | fld agg n off x =>
    simp only [L.opds, List.mem_singleton, forall_eq] at hev
    simp only [L.pre, L.val] at hp ⊢
    rw [hev]; exact ⟨hp, rfl⟩
  | ixS es x i =>
    simp only [L.opds, List.mem_cons, List.not_mem_nil, or_false, forall_eq_or_imp, forall_eq] at hev
    obtain ⟨h1, h2⟩ := hev
    simp only [L.pre, L.val] at hp ⊢
    rw [h1, h2]; exact ⟨⟨okSl_le hh (fun k e => (hb x (by simp [L.hops]) k e).1) hp.1, hp.2⟩, rfl⟩
  | ixA len es x i =>
    simp only [L.opds, List.mem_cons, List.not_mem_nil, or_false, forall_eq_or_imp, forall_eq] at hev
    obtain ⟨h1, h2⟩ := hev
    simp only [L.pre, L.val] at hp ⊢
    rw [h1, h2]; exact ⟨⟨okAt_le hh (fun k e => (hb x (by simp [L.hops]) k e).1) hp.1, hp.2⟩, rfl⟩
  | ixStr x i =>
    simp only [L.opds, List.mem_cons, List.not_mem_nil, or_false, forall_eq_or_imp, forall_eq] at hev
    obtain ⟨h1, h2⟩ := hev
    simp only [L.pre, L.val] at hp ⊢
    rw [h1, h2]; exact ⟨hp, rfl⟩
  | ixV agg len es x i =>
    simp only [L.opds, List.mem_cons, List.not_mem_nil, or_false, forall_eq_or_imp, forall_eq] at hev
    obtain ⟨h1, h2⟩ := hev
    simp only [L.pre, L.val] at hp ⊢
    rw [h1, h2]; exact ⟨hp, rfl⟩
  | ext x i =>
    simp only [L.opds, List.mem_singleton, forall_eq] at hev
    simp only [L.pre, L.val] at hp ⊢
    rw [hev]; exact ⟨hp, rfl⟩
  | lenStr x =>
    simp only [L.opds, List.mem_singleton, forall_eq] at hev
    simp only [L.pre, L.val] at hp ⊢
    rw [hev]; exact ⟨hp, rfl⟩
  | lenSl x =>
    simp only [L.opds, List.mem_singleton, forall_eq] at hev
    simp only [L.pre, L.val] at hp ⊢
    rw [hev]; exact ⟨okSl_le hh (fun k e => (hb x (by simp [L.hops]) k e).1) hp, rfl⟩
  | lenArr n => exact ⟨trivial, rfl⟩
  | conv k x =>
    simp only [L.opds, List.mem_singleton, forall_eq] at hev
    simp only [L.pre, L.val] at hp ⊢
    rw [hev]; exact ⟨hp, rfl⟩
  | build zero parts =>
    have hev' : ∀ p ∈ parts, st'.ev p.2.2 = st.ev p.2.2 := fun p hp => hev _ (by simp only [L.opds]; exact List.mem_map.2 ⟨p, hp, rfl⟩)
    simp only [L.pre, L.val] at hp ⊢
    refine ⟨fun p hp' => ?_, ?_⟩
    · rw [hev' p hp']; exact ⟨sized_le hh (fun k e => (hb p.2.2 (by simp only [L.hops]; exact List.mem_map.2 ⟨p, hp', rfl⟩) k e).1) (hp p hp').1, (hp p hp').2⟩
    · congr 2
      exact List.map_congr_left fun p hp' => by rw [hev' p hp']
  | mkfn fn first cap =>
    simp only [L.opds, List.mem_append] at hev
    refine ⟨trivial, ?_⟩
    simp only [L.val]
    rw [List.map_congr_left fun x hx => hev x (.inl hx), List.map_congr_left fun x hx => hev x (.inr hx)]
  | slStr x lo hi =>
    simp only [L.opds, List.mem_cons, List.mem_append] at hev
    have h1 := hev x (.inl rfl)
    simp only [L.pre, L.val] at hp ⊢
    rw [h1, optN_congr fun y hy => hev y (.inr (.inl hy)), optN_congr fun y hy => hev y (.inr (.inr hy)), optP_congr fun y hy => hev y (.inr (.inl hy)), optP_congr fun y hy => hev y (.inr (.inr hy))]
    exact ⟨hp, rfl⟩
  | slSl es x lo hi =>
    simp only [L.opds, List.mem_cons, List.mem_append] at hev
    have h1 := hev x (.inl rfl)
    simp only [L.pre, L.val] at hp ⊢
    rw [h1, optN_congr fun y hy => hev y (.inr (.inl hy)), optN_congr fun y hy => hev y (.inr (.inr hy)), optP_congr fun y hy => hev y (.inr (.inl hy)), optP_congr fun y hy => hev y (.inr (.inr hy))]
    exact ⟨⟨okSl_le hh (fun k e => (hb x (by simp [L.hops]) k e).1) hp.1, hp.2⟩, rfl⟩
  | mkif t x =>
    simp only [L.opds, List.mem_singleton, forall_eq] at hev
    exact ⟨trivial, by simp only [L.val]; rw [hev]⟩
  | lkp ok k zero m x =>
    simp only [L.opds, List.mem_cons, List.not_mem_nil, or_false, forall_eq_or_imp, forall_eq] at hev
    obtain ⟨h1, h2⟩ := hev
    simp only [L.pre, L.val] at hp ⊢
    rw [h1, h2]
    have g := ents_le hh (fun k e => (hb m (by simp [L.hops]) k e).1) (fun k e => (hb m (by simp [L.hops]) k e).2 rfl) hp.1
    rw [g]
    exact ⟨⟨okMp_le hh hp.1, hp.2⟩, rfl⟩
  | lenMp m =>
    simp only [L.opds, List.mem_singleton, forall_eq] at hev
    simp only [L.pre, L.val] at hp ⊢
    rw [hev, ents_le hh (fun k e => (hb m (by simp [L.hops]) k e).1) (fun k e => (hb m (by simp [L.hops]) k e).2 rfl) hp]
    exact ⟨okMp_le hh hp, rfl⟩
  | eqD neg offs x y =>
    simp only [L.opds, List.mem_cons, List.not_mem_nil, or_false, forall_eq_or_imp, forall_eq] at hev
    obtain ⟨h1, h2⟩ := hev
    simp only [L.pre, L.val] at hp ⊢
    rw [h1, h2]; exact ⟨hp, rfl⟩
  | cvBS x =>
    simp only [L.opds, List.mem_singleton, forall_eq] at hev
    simp only [L.pre, L.val] at hp ⊢
    rw [hev, rowsOf_le hh (fun k e => (hb x (by simp [L.hops]) k e).1) (fun k e => (hb x (by simp [L.hops]) k e).2 rfl) hp.1]
    exact ⟨⟨okSl_le hh (fun k e => (hb x (by simp [L.hops]) k e).1) hp.1, hp.2⟩, rfl⟩
  | eqZ kd neg x =>
    simp only [L.opds, List.mem_singleton, forall_eq] at hev
    simp only [L.pre, L.val] at hp ⊢
    rw [hev]
    exact ⟨⟨hp.1, okZ_le hh (fun k e => (hb x (by simp [L.hops]) k e).1) hp.2⟩, rfl⟩
  | mxm mx xs =>
    simp only [L.opds] at hev
    simp only [L.pre, L.val] at hp ⊢
    cases xs with
    | nil => exact hp.elim
    | cons x rest =>
      simp only at hp ⊢
      rw [hev x (by simp)]
      refine ⟨⟨hp.1, fun y hy => by rw [hev y (by simp [hy])]; exact hp.2 y hy⟩, ?_⟩
      have key : ∀ (l : List Operand) (n : Int), (∀ y ∈ l, st'.ev y = st.ev y) → l.foldl (fun n y => mxI mx n (st'.ev y).num) n = l.foldl (fun n y => mxI mx n (st.ev y).num) n := by
        intro l
        induction l with
        | nil => intro n _; rfl
        | cons y l ih =>
          intro n h
          simp only [List.foldl_cons]
          rw [h y (by simp)]
          exact ih _ fun z hz => h z (by simp [hz])
      rw [key rest _ fun y hy => hev y (by simp [hy])]


def tmpsOf : List Operand → List Nat
  | [] => []
  | .tmp t :: l => t :: tmpsOf l
  | _ :: l => tmpsOf l

theorem tmpsOf_mem {t : Nat} {l : List Operand} : t ∈ tmpsOf l ↔ Operand.tmp t ∈ l := by
  induction l with
  | nil => simp [tmpsOf]
  | cons x l ih => cases x <;> simp [tmpsOf, ih]

/-- The slots that an operation looks at. -/
def I.rd : I → List Nat
  | .lt _ l => tmpsOf l.opds
  | .frz t => [t]
  | .nilv t _ => [t]
  | .nilo t _ _ => [t]
  | .keep _ => []
  | .store ap _ x v => ap ++ tmpsOf [x, v]
  | .alloc .. => []
  | .box _ _ _ x => tmpsOf [x]
  | .bsl _ _ _ _ _ parts => tmpsOf (parts.map (·.2))
  | .app ap _ _ _ _ x y => ap ++ tmpsOf [x, y]
  | .call _ _ xs => tmpsOf xs
  | .callv _ fv xs => tmpsOf (fv :: xs)
  | .callm _ fv xs => tmpsOf (fv :: xs)
  | .callb _ fv xs => tmpsOf (fv :: xs)
  | .callo _ fv xs => tmpsOf (fv :: xs)
  | .mkm .. => []
  | .mup ap _ m key v => ap ++ tmpsOf [m, key, v]
  | .rng _ _ x => tmpsOf [x]
  | .nxt _ x => tmpsOf [x]

def I.wr : I → List Nat
  | .lt d _ | .alloc d _ _ _ | .box d _ _ _ | .bsl d _ _ _ _ _ | .app _ d _ _ _ _ _ | .call d _ _ | .callv d _ _ | .callm d _ _ | .callb d _ _ | .callo d _ _ | .mkm d _ | .rng d _ _ | .nxt d _ => d.toList
  | .frz t => [t]
  | .nilv t _ => [t]
  | .nilo t _ _ => [t]
  | .keep _ => []
  | .store .. => []
  | .mup .. => []

/-- May it stand in a region whose order is open? -/
def I.free : I → Bool
  | .nilo .. | .keep _ | .callm .. => false
  | _ => true

/-- The slots whose objects it keeps away from; does it change what is held, or how long it is? -/
def I.ap : I → List Nat
  | .store ap .. => ap
  | .app ap .. => ap
  | .mup ap .. => ap
  | _ => []
def I.quiet : I → Bool
  | .store .. | .app .. | .mup .. | .callm .. => false
  | _ => true
def I.isSt : I → Bool
  | .store .. | .mup .. => true
  | _ => false

theorem ev_put {st : St} {d : Nat} {v : V} {x : Operand} (h : x ≠ .tmp d) : (st.put (some d) v).ev x = st.ev x := by
  cases x with
  | tmp t =>
    show (if d = t then v else gt st.sl t) = gt st.sl t
    rw [if_neg fun e => h (by rw [e])]
  | _ => rfl

theorem ev_hp {st : St} {H : Heap} {x : Operand} : ({ st with hp := H } : St).ev x = st.ev x := by cases x <;> rfl

theorem put_comm {st : St} {d : Nat} {v : V} {d' : Option Nat} {u : V} (h : d ∉ d'.toList) : (st.put (some d) v).put d' u = (st.put d' u).put (some d) v := by
  cases d' with
  | none => rfl
  | some d' =>
    have hne : d ≠ d' := by simpa using h
    simp only [St.put, St.mk.injEq, and_self, and_true]
    funext t
    simp only [up]
    by_cases h1 : d' = t <;> by_cases h2 : d = t <;> simp_all

theorem put_hp' {st : St} {d : Nat} {v : V} {H : Heap} : { st.put (some d) v with hp := H } = ({ st with hp := H } : St).put (some d) v := rfl

theorem I.vc_mono {P : Program} {i : I} {K K' : St → Prop} {st : St} (h : i.vc P K st) (hk : ∀ s, K s → K' s) : i.vc P K' st := by
  cases i with
  | lt d l => exact ⟨h.1, hk _ h.2⟩
  | frz t =>
    simp only [I.vc] at h ⊢
    split
    · next e => rw [if_pos e] at h; exact hk _ h
    · next e => rw [if_neg e] at h; exact ⟨h.1, hk _ h.2⟩
  | nilv t es => exact hk _ h
  | nilo t es r =>
    simp only [I.vc] at h ⊢
    split at h
    · exact ⟨h.1, hk _ h.2⟩
    · exact hk _ h
  | keep ts => exact hk _ h
  | store ap n x v =>
    simp only [I.vc] at h ⊢
    split at h
    · next ex =>
      split at h
      · next hgd => exact ⟨h.1, h.2.1, h.2.2.1, h.2.2.2.1, h.2.2.2.2.1, hk _ h.2.2.2.2.2⟩
      · exact h.elim
    · exact h.elim
  | alloc d r n zero => exact ⟨h.1, h.2.1, hk _ h.2.2⟩
  | box d r n x => exact ⟨h.1, h.2.1, hk _ h.2.2⟩
  | bsl d r es n zero parts => exact ⟨h.1, h.2.1, h.2.2.1, hk _ h.2.2.2⟩
  | app ap d r es bytes x y =>
    simp only [I.vc] at h ⊢
    split at h
    · next ex =>
      split at h
      · next hgd =>
        obtain ⟨h0, h1, h2, h3, h4, h5, h6, h7⟩ := h
        exact ⟨h0, h1, h2, h3, h4, h5, h6, hk _ h7⟩
      · exact h.elim
    · next ex =>
      obtain ⟨h1, h2, h3, h4, h5⟩ := h
      exact ⟨h1, h2, h3, h4, hk _ h5⟩
    · exact h.elim
  | call d f xs => exact ⟨h.1, DP.mono h.2 fun r hr => hk _ hr⟩
  | callv d fv xs =>
    simp only [I.vc] at h ⊢
    split at h
    · next ex =>
      exact ⟨h.1, h.2.1, DP.mono h.2.2 fun r hr => hk _ hr⟩
    · exact h.elim
  | callm d fv xs =>
    simp only [I.vc] at h ⊢
    split at h
    · exact ⟨h.1, h.2.1, DC.mono h.2.2 fun r H' hr => hk _ hr⟩
    · exact h.elim
  | callb d fv xs =>
    simp only [I.vc] at h ⊢
    split at h
    · exact ⟨h.1, h.2.1, DP.mono h.2.2 fun r hr => ⟨hr.1, hk _ hr.2⟩⟩
    · exact h.elim
  | callo d fv xs =>
    simp only [I.vc] at h ⊢
    split at h
    · exact ⟨h.1, h.2.1, DC.mono h.2.2 fun r H' hr => hk _ hr⟩
    · exact h.elim
  | mkm d r => exact ⟨h.1, hk _ h.2⟩
  | mup ap kd m key v =>
    simp only [I.vc] at h ⊢
    split at h
    · split at h
      · exact ⟨h.1, h.2.1, h.2.2.1, hk _ h.2.2.2⟩
      · exact h.elim
    · exact h.elim
  | rng d r x => exact ⟨h.1, h.2.1, hk _ h.2.2⟩
  | nxt d x =>
    simp only [I.vc] at h ⊢
    split at h
    · split at h
      · split at h
        · next hlt => rw [if_pos hlt]; exact hk _ h
        · next hlt => rw [if_neg hlt]; exact hk _ h
      · exact h.elim
    · exact h.elim

/-- A slot that the operation doesn't touch may be set before it or behind it. -/
theorem I.vc_put {P : Program} {i : I} {K : St → Prop} {st : St} {d : Nat} {v : V} (hf : i.free = true) (hr : d ∉ i.rd) (hw : d ∉ i.wr) (h : i.vc P K (st.put (some d) v)) :
    i.vc P (fun s => K (s.put (some d) v)) st := by
  have nt : ∀ {x : Operand} {l : List Operand}, d ∉ tmpsOf l → x ∈ l → x ≠ .tmp d := fun h1 h2 e => h1 (tmpsOf_mem.2 (e ▸ h2))
  have sl : ∀ {t : Nat}, d ≠ t → gt (st.put (some d) v).sl t = gt st.sl t := fun h => if_neg h
  cases i with
  | lt d' l =>
    obtain ⟨h1, h2⟩ := h
    obtain ⟨g1, g2⟩ := L.stable (st := st.put (some d) v) (st' := st) (fun x hx => (ev_put (nt hr hx)).symm) (hle.refl (fun _ => False) (fun _ => False) _) (fun _ _ _ _ => ⟨fun h => h, fun _ h => h⟩) h1
    refine ⟨g1, ?_⟩
    rw [put_comm hw] at h2
    rw [g2]; exact h2
  | frz t =>
    have ht : d ≠ t := by simpa [I.rd] using hr
    simp only [I.vc] at h ⊢
    rw [sl ht] at h
    split
    · next e => rw [if_pos e] at h; exact h
    · next e =>
      rw [if_neg e] at h
      refine ⟨h.1, ?_⟩
      have h2 := h.2
      have e2 : up (st.put (some d) v).sl t ((gt st.sl t).fz (st.put (some d) v).hp) = up (up st.sl t ((gt st.sl t).fz st.hp)) d v := by
        funext u
        simp only [up, St.put]
        by_cases a1 : t = u <;> by_cases a2 : d = u <;> simp_all
      rw [e2] at h2
      exact h2
  | nilv t es =>
    have ht : d ≠ t := by simpa [I.rd] using hr
    simp only [I.vc] at h ⊢
    rw [sl ht] at h
    have e2 : ∀ y, up (st.put (some d) v).sl t y = up (up st.sl t y) d v := by
      intro y
      funext u
      simp only [up, St.put]
      by_cases a1 : t = u <;> by_cases a2 : d = u <;> simp_all
    rw [e2] at h
    exact h
  | nilo t es r => cases hf
  | keep ts => cases hf
  | store ap n x y =>
    simp only [I.rd, List.mem_append, not_or] at hr
    simp only [I.vc] at h ⊢
    rw [ev_put (nt hr.2 (by simp)), ev_put (nt hr.2 (by simp))] at h
    have e1 : (st.put (some d) v).hp = st.hp := rfl
    simp only [e1] at h
    split at h
    · next ex =>
      split at h
      · next hgd =>
        obtain ⟨h0, h1⟩ := h
        exact ⟨fun t ht => by rw [← sl fun e => hr.1 (e ▸ ht)]; exact h0 t ht, h1⟩
      · exact h.elim
    · exact h.elim
  | alloc d' r n zero =>
    obtain ⟨h1, h2, h3⟩ := h
    refine ⟨h1, h2, ?_⟩
    show K _
    rw [← put_comm hw]; exact h3
  | box d' r n x =>
    obtain ⟨h1, h2, h3⟩ := h
    rw [ev_put (nt hr (by simp))] at h2 h3
    refine ⟨h1, h2, ?_⟩
    show K _
    rw [← put_comm hw]; exact h3
  | bsl d' r es n zero parts =>
    obtain ⟨h1, h2, h3, h4⟩ := h
    have hp : ∀ p ∈ parts, (st.put (some d) v).ev p.2 = st.ev p.2 := fun p hp => ev_put (nt hr (List.mem_map.2 ⟨p, hp, rfl⟩))
    have hm : (parts.map fun (p : Nat × Operand) => (p.1 * es, es, (st.put (some d) v).ev p.2)) = parts.map fun (p : Nat × Operand) => (p.1 * es, es, st.ev p.2) := List.map_congr_left fun p hp' => by rw [hp p hp']
    rw [hm] at h4
    refine ⟨h1, h2, fun p hp' => by have := h3 p hp'; rw [hp p hp'] at this; exact this, ?_⟩
    show K _
    rw [← put_comm hw]; exact h4
  | app ap d' r es bytes x y =>
    simp only [I.rd, List.mem_append, not_or] at hr
    simp only [I.vc] at h ⊢
    rw [ev_put (nt hr.2 (by simp)), ev_put (nt hr.2 (by simp))] at h
    have e1 : (st.put (some d) v).hp = st.hp := rfl
    have e2 : (st.put (some d) v).bs = st.bs := rfl
    simp only [e1, e2] at h
    split at h
    · next ex =>
      split at h
      · next hgd =>
        obtain ⟨h0, h1, h2, h3, h4, h5, h6, h7⟩ := h
        refine ⟨fun t ht => by rw [← sl fun e => hr.1 (e ▸ ht)]; exact h0 t ht, h1, h2, h3, h4, h5, h6, ?_⟩
        show K _
        rw [← put_comm hw]; exact h7
      · exact h.elim
    · next ex =>
      obtain ⟨h1, h2, h3, h4, h5⟩ := h
      refine ⟨h1, h2, h3, h4, ?_⟩
      show K _
      rw [← put_comm hw]; exact h5
    · exact h.elim
  | call d' f xs =>
    obtain ⟨h1, h2⟩ := h
    have hm : xs.map (st.put (some d) v).ev = xs.map st.ev := List.map_congr_left fun x hx => ev_put (nt hr hx)
    rw [hm] at h1 h2
    exact ⟨h1, DP.mono h2 fun r hr' => by show K _; rw [← put_comm hw]; exact hr'⟩
  | callv d' fv xs =>
    simp only [I.vc] at h ⊢
    have hm : xs.map (st.put (some d) v).ev = xs.map st.ev := List.map_congr_left fun x hx => ev_put (nt hr (by simp [hx]))
    rw [ev_put (nt hr (by simp)), hm] at h
    split at h
    · next ex =>
      exact ⟨h.1, h.2.1, DP.mono h.2.2 fun r hr' => by show K _; rw [← put_comm hw]; exact hr'⟩
    · exact h.elim
  | callm d' fv xs => cases hf
  | callb d' fv xs =>
    simp only [I.vc] at h ⊢
    have hm : xs.map (st.put (some d) v).ev = xs.map st.ev := List.map_congr_left fun x hx => ev_put (nt hr (by simp [hx]))
    rw [ev_put (nt hr (by simp)), hm] at h
    split at h
    · next ex =>
      exact ⟨h.1, h.2.1, DP.mono h.2.2 fun r hr' => ⟨hr'.1, by show K _; rw [← put_comm hw]; exact hr'.2⟩⟩
    · exact h.elim
  | callo d' fv xs =>
    simp only [I.vc] at h ⊢
    have hm : xs.map (st.put (some d) v).ev = xs.map st.ev := List.map_congr_left fun x hx => ev_put (nt hr (by simp [hx]))
    rw [ev_put (nt hr (by simp)), hm] at h
    split at h
    · next ex =>
      refine ⟨h.1, h.2.1, DC.mono h.2.2 fun r H' hr' => ?_⟩
      show K _
      rw [← put_comm hw]; exact hr'
    · exact h.elim
  | mkm d' r =>
    obtain ⟨h1, h2⟩ := h
    refine ⟨h1, ?_⟩
    show K _
    rw [← put_comm hw]; exact h2
  | mup ap kd m key y =>
    simp only [I.rd, List.mem_append, not_or] at hr
    simp only [I.vc] at h ⊢
    rw [ev_put (nt hr.2 (by simp)), ev_put (nt hr.2 (by simp)), ev_put (nt hr.2 (by simp))] at h
    have e1 : (st.put (some d) v).hp = st.hp := rfl
    simp only [e1] at h
    split at h
    · split at h
      · obtain ⟨h0, h1⟩ := h
        exact ⟨fun t ht => by rw [← sl fun e => hr.1 (e ▸ ht)]; exact h0 t ht, h1⟩
      · exact h.elim
    · exact h.elim
  | rng d' r x =>
    obtain ⟨h1, h2, h3⟩ := h
    rw [ev_put (nt hr (by simp))] at h2 h3
    refine ⟨h1, h2, ?_⟩
    show K _
    rw [← put_comm hw]; exact h3
  | nxt d' x =>
    simp only [I.vc] at h ⊢
    rw [ev_put (nt hr (by simp))] at h
    have e1 : (st.put (some d) v).hp = st.hp := rfl
    simp only [e1] at h
    split at h
    · split at h
      · split at h
        · next hlt => rw [if_pos hlt]; show K _; rw [← put_comm hw]; exact h
        · next hlt => rw [if_neg hlt]; show K _; rw [← put_comm hw]; exact h
      · exact h.elim
    · exact h.elim


/-- What an operation leaves as it was. -/
def Out (i : I) (st st' : St) : Prop :=
  (∀ t, t ∉ i.wr → gt st'.sl t = gt st.sl t) ∧ ∃ bl bc : Nat → Prop, hle bl bc st.hp st'.hp ∧ (i.quiet = true → ∀ k, ¬ bl k ∧ ¬ bc k) ∧ (i.isSt = true → ∀ k, ¬ bl k) ∧ ∀ t ∈ i.ap, ∀ k, (gt st.sl t).oid = some k → ¬ bl k ∧ ¬ bc k

theorem Out.quiet {i : I} {st st' : St} (h : ∀ t, t ∉ i.wr → gt st'.sl t = gt st.sl t) (hh : hle (fun _ => False) (fun _ => False) st.hp st'.hp) : Out i st st' :=
  ⟨h, fun _ => False, fun _ => False, hh, fun _ _ => ⟨fun h => h, fun h => h⟩, fun _ _ h => h, fun _ _ _ _ => ⟨fun h => h, fun h => h⟩⟩

theorem gt_put {st : St} {d : Option Nat} {v : V} {t : Nat} (h : t ∉ d.toList) : gt (st.put d v).sl t = gt st.sl t := by
  cases d with
  | none => rfl
  | some d => exact if_neg fun e => h (by simp [e])

theorem hle_set {H : Heap} {id : Nat} {o : O} (h : H[id]? = some .res) : hle (fun _ => False) (fun _ => False) H (H.set id o) := by
  have e : ∀ k, k ≠ id → (H.set id o).getD k .dead = H.getD k .dead := fun k hk => by simp only [List.getD, getElem?_set_ne' hk]
  have e2 : H.getD id .dead = .res := getD_some h
  have key : ∀ k, ((H.getD k .dead).isMem = true ∨ (H.getD k .dead).isMap = true) → (H.set id o).getD k .dead = H.getD k .dead := by
    intro k hk
    refine e k fun hki => ?_
    subst hki
    rw [e2] at hk
    rcases hk with hk | hk <;> cases hk
  exact ⟨fun k hk => by rw [key k (.inl hk)]; exact hk, fun k hk _ => by rw [key k (.inl hk)], fun k hk _ _ => by rw [key k (.inl hk)], fun k hk => by rw [key k (.inr hk)]; exact hk, fun k hk _ _ => by rw [key k (.inr hk)]⟩

theorem hle_app {H X : Heap} : hle (fun _ => False) (fun _ => False) H (H ++ X) := by
  have key : ∀ k, ((H.getD k .dead).isMem = true ∨ (H.getD k .dead).isMap = true) → (H ++ X).getD k .dead = H.getD k .dead := by
    intro k hk
    by_cases hl : k < H.length
    · simp only [List.getD, List.getElem?_append_left hl]
    · have : H.getD k .dead = .dead := by simp [List.getD, List.getElem?_eq_none (Nat.le_of_not_lt hl)]
      rw [this] at hk
      rcases hk with hk | hk <;> cases hk
  exact ⟨fun k hk => by rw [key k (.inl hk)]; exact hk, fun k hk _ => by rw [key k (.inl hk)], fun k hk _ _ => by rw [key k (.inl hk)], fun k hk => by rw [key k (.inr hk)]; exact hk, fun k hk _ _ => by rw [key k (.inr hk)]⟩

theorem hle_fz {l : List Nat} : ∀ {H : Heap}, hle (fun _ => False) (fun _ => False) H (H.fz l) := by
  intro H
  have e : ∀ id, (H.fz l).getD id .dead = if id ∈ l then (H.getD id .dead).fz else H.getD id .dead := by
    intro id
    simp only [List.getD, Heap.fz_get]
    cases H[id]? with
    | none => simp only [Option.map_none, Option.getD_none]; split <;> rfl
    | some o => simp only [Option.map_some, Option.getD_some]
  have r : ∀ o : O, o.fz.rows = o.rows ∧ o.fz.isMem = o.isMem ∧ o.fz.isMap = o.isMap ∧ o.fz.ents = o.ents := fun o => by cases o <;> exact ⟨rfl, rfl, rfl, rfl⟩
  refine ⟨fun k hk => ?_, fun k hk _ => ?_, fun k hk _ _ => ?_, fun k hk => ?_, fun k hk _ _ => ?_⟩ <;> rw [e] <;> split <;> simp_all

theorem hle_mem {H : Heap} {id : Nat} {fz : Bool} {refs refs' : List Nat} {rows rows' : List (List V)} (h : H[id]? = some (.mem fz refs rows)) :
    hle (fun k => k = id ∧ rows'.length ≠ rows.length) (fun k => k = id) H (H.set id (.mem fz refs' rows')) := by
  have e : ∀ k, k ≠ id → (H.set id (.mem fz refs' rows')).getD k .dead = H.getD k .dead := fun k hk => by simp only [List.getD, getElem?_set_ne' hk]
  have e2 : H.getD id .dead = .mem fz refs rows := getD_some h
  have e3 : (H.set id (.mem fz refs' rows')).getD id .dead = .mem fz refs' rows' := getD_some (get_set h)
  refine ⟨fun k hk => ?_, fun k hk hb => ?_, fun k hk _ hc => ?_, fun k hk => ?_, fun k hk _ hc => by rw [e k hc]⟩
  · by_cases hki : k = id
    · subst hki; rw [e3]; rfl
    · rw [e k hki]; exact hk
  · by_cases hki : k = id
    · subst hki; rw [e3, e2]; exact Classical.byContradiction fun hn => hb ⟨rfl, hn⟩
    · rw [e k hki]
  · rw [e k hc]
  · by_cases hki : k = id
    · subst hki; rw [e2] at hk; cases hk
    · rw [e k hki]; exact hk

theorem hle_map {H : Heap} {id : Nat} {fz : Bool} {refs refs' : List Nat} {es es' : List (V × V)} (h : H[id]? = some (.map fz refs es)) :
    hle (fun _ => False) (fun k => k = id) H (H.set id (.map fz refs' es')) := by
  have e : ∀ k, k ≠ id → (H.set id (.map fz refs' es')).getD k .dead = H.getD k .dead := fun k hk => by simp only [List.getD, getElem?_set_ne' hk]
  have e2 : H.getD id .dead = .map fz refs es := getD_some h
  have e3 : (H.set id (.map fz refs' es')).getD id .dead = .map fz refs' es' := getD_some (get_set h)
  refine ⟨fun k hk => ?_, fun k hk _ => ?_, fun k hk _ hc => by rw [e k hc], fun k hk => ?_, fun k hk _ hc => by rw [e k hc]⟩
  all_goals by_cases hki : k = id
  · subst hki; rw [e2] at hk; cases hk
  · rw [e k hki]; exact hk
  · subst hki; rw [e2] at hk; cases hk
  · rw [e k hki]
  · subst hki; rw [e3]; rfl
  · rw [e k hki]; exact hk

theorem hle_sit {H : Heap} {id : Nat} {s s' : ByteArray} {p p' : Nat} (h : H[id]? = some (.sit s p)) : hle (fun _ => False) (fun _ => False) H (H.set id (.sit s' p')) := by
  have e : ∀ k, ((H.getD k .dead).isMem = true ∨ (H.getD k .dead).isMap = true) → (H.set id (.sit s' p')).getD k .dead = H.getD k .dead := fun k hk => by
    by_cases hki : k = id
    · subst hki
      rw [getD_some h] at hk
      rcases hk with hk | hk <;> cases hk
    · simp only [List.getD, getElem?_set_ne' hki]
  exact ⟨fun k hk => by rw [e k (.inl hk)]; exact hk, fun k hk _ => by rw [e k (.inl hk)], fun k hk _ _ => by rw [e k (.inl hk)], fun k hk => by rw [e k (.inr hk)]; exact hk, fun k hk _ _ => by rw [e k (.inr hk)]⟩

theorem get_of {H : Heap} {id : Nat} {o : O} (h : H.getD id .dead = o) (ho : o ≠ .dead) : H[id]? = some o := by
  cases hq : H[id]? with
  | none => simp [List.getD, hq] at h; exact (ho h.symm).elim
  | some o => rw [getD_some hq] at h; rw [h]

theorem hid_of {H : Heap} {id : Nat} {fz : Bool} {refs : List Nat} {rows : List (List V)} (h : H.getD id .dead = .mem fz refs rows) : H[id]? = some (.mem fz refs rows) := by
  cases hq : H[id]? with
  | none => simp [List.getD, hq] at h
  | some o => rw [getD_some hq] at h; rw [h]

theorem I.vc_out {P : Program} {i : I} {K : St → Prop} {st : St} (hf : i.free = true) (h : i.vc P K st) : i.vc P (fun s => Out i st s ∧ K s) st := by
  have same : ∀ {d : Option Nat} {v : V}, hle (fun _ => False) (fun _ => False) st.hp (st.put d v).hp := fun {d v} => by rw [put_hp]; exact .refl _ _ _
  cases i with
  | lt d l => exact ⟨h.1, .quiet (fun t ht => gt_put ht) same, h.2⟩
  | frz t =>
    simp only [I.vc] at h ⊢
    split
    · next e => rw [if_pos e] at h; exact ⟨.quiet (fun _ _ => rfl) (.refl _ _ _), h⟩
    · next e =>
      rw [if_neg e] at h
      exact ⟨h.1, .quiet (fun u hu => if_neg fun e => hu (by simp [I.wr, e])) hle_fz, h.2⟩
  | nilv t es => exact ⟨.quiet (fun u hu => if_neg fun e => hu (by simp [I.wr, e])) (.refl _ _ _), h⟩
  | nilo t es r => cases hf
  | keep ts => cases hf
  | store ap n x v =>
    simp only [I.vc] at h ⊢
    split at h
    · next id tot i0 j ex =>
      split at h
      · next refs rows hgd =>
        refine ⟨h.1, h.2.1, h.2.2.1, h.2.2.2.1, h.2.2.2.2.1, ⟨fun _ _ => rfl, _, _, hle_mem (hid_of hgd), (fun e => by cases e), (fun _ k hk => hk.2 (by simp)), fun t ht k hk => ?_⟩, h.2.2.2.2.2⟩
        have : k ≠ id := fun e => h.1 t ht (by rw [hk, e])
        exact ⟨fun e => this e.1, this⟩
      · exact h.elim
    · exact h.elim
  | alloc d r n zero => exact ⟨h.1, h.2.1, .quiet (fun t ht => gt_put ht) (by rw [put_hp]; exact hle_set h.1), h.2.2⟩
  | box d r n x => exact ⟨h.1, h.2.1, .quiet (fun t ht => gt_put ht) (by rw [put_hp]; exact hle_set h.1), h.2.2⟩
  | bsl d r es n zero parts => exact ⟨h.1, h.2.1, h.2.2.1, .quiet (fun t ht => gt_put ht) (by rw [put_hp]; exact hle_set h.1), h.2.2.2⟩
  | app ap d r es bytes x y =>
    simp only [I.vc] at h ⊢
    split at h
    · next id es' off len tot ex =>
      split at h
      · next refs rows hgd =>
        obtain ⟨h0, h1, h2, h3, h4, h5, h6, h7⟩ := h
        refine ⟨h0, h1, h2, h3, h4, h5, h6, ⟨fun t ht => gt_put ht, _, _, (by rw [put_hp]; exact hle_mem (hid_of hgd)), (fun e => by cases e), (fun e => by cases e), fun t ht k hk => ?_⟩, h7⟩
        have : k ≠ id := fun e => h0 t ht (by rw [hk, e])
        exact ⟨fun e => this e.1, this⟩
      · exact h.elim
    · next ex =>
      obtain ⟨h1, h2, h3, h4, h5⟩ := h
      exact ⟨h1, h2, h3, h4, .quiet (fun t ht => gt_put ht) (by rw [put_hp]; exact hle_set h1), h5⟩
    · exact h.elim
  | call d f xs => exact ⟨h.1, DP.mono h.2 fun r hr => ⟨.quiet (fun t ht => gt_put ht) same, hr⟩⟩
  | callv d fv xs =>
    simp only [I.vc] at h ⊢
    split at h
    · next ex => exact ⟨h.1, h.2.1, DP.mono h.2.2 fun r hr => ⟨.quiet (fun t ht => gt_put ht) same, hr⟩⟩
    · exact h.elim
  | callm d fv xs => cases hf
  | callb d fv xs =>
    simp only [I.vc] at h ⊢
    split at h
    · next ex => exact ⟨h.1, h.2.1, DP.mono h.2.2 fun r hr => ⟨hr.1, .quiet (fun t ht => gt_put ht) same, hr.2⟩⟩
    · exact h.elim
  | callo d fv xs =>
    simp only [I.vc] at h ⊢
    split at h
    · next ex => exact ⟨h.1, h.2.1, DC.mono h.2.2 fun r H' hr => ⟨.quiet (fun t ht => gt_put ht) (by rw [put_hp]; exact hle_app), hr⟩⟩
    · exact h.elim
  | mkm d r => exact ⟨h.1, .quiet (fun t ht => gt_put ht) (by rw [put_hp]; exact hle_set h.1), h.2⟩
  | mup ap kd m key v =>
    simp only [I.vc] at h ⊢
    split at h
    · next id ex =>
      split at h
      · next refs es hgd =>
        refine ⟨h.1, h.2.1, h.2.2.1, ⟨fun _ _ => rfl, _, _, hle_map (get_of hgd (by simp)), (fun e => by cases e), (fun _ k hk => hk), fun t ht k hk => ?_⟩, h.2.2.2⟩
        have : k ≠ id := fun e => h.1 t ht (by rw [hk, e])
        exact ⟨fun e => e, this⟩
      · exact h.elim
    · exact h.elim
  | rng d r x => exact ⟨h.1, h.2.1, .quiet (fun t ht => gt_put ht) (by rw [put_hp]; exact hle_set h.1), h.2.2⟩
  | nxt d x =>
    simp only [I.vc] at h ⊢
    split at h
    · next id ex =>
      split at h
      · next s pos hgd =>
        split at h
        · next hlt => rw [if_pos hlt]; exact ⟨.quiet (fun t ht => gt_put ht) (by rw [put_hp]; exact hle_sit (get_of hgd (by simp))), h⟩
        · next hlt => rw [if_neg hlt]; exact ⟨.quiet (fun t ht => gt_put ht) same, h⟩
      · exact h.elim
    · exact h.elim

/-! Items: an operation, its guard, and what stands ahead of it. -/

def It.rd : It → List Nat
  | .g i => i.rd
  | .o _ i => i.rd
  | .gd _ s _ _ i => s :: i.rd
def It.wr : It → List Nat
  | .g i => i.wr
  | .o _ i => i.wr
  | .gd _ _ _ d i => d.toList ++ i.wr
def It.free : It → Bool
  | .g i | .o _ i | .gd _ _ _ _ i => i.free
def It.i : It → I
  | .g i | .o _ i | .gd _ _ _ _ i => i

def vcIt (P : Program) (it : It) (k : St → Prop) (st : St) : Prop := vcIts P [it] k st

theorem vcIts_cons {P : Program} {it : It} {l : List It} {k : St → Prop} {st : St} : vcIts P (it :: l) k st = vcIt P it (vcIts P l k) st := by
  cases it <;> rfl

theorem vcIt_mono {P : Program} {it : It} {K K' : St → Prop} {st : St} (h : vcIt P it K st) (hk : ∀ s, K s → K' s) : vcIt P it K' st := by
  cases it with
  | g i => exact I.vc_mono (i := i) h hk
  | o j i => exact I.vc_mono (i := i) h hk
  | gd j s want d i =>
    simp only [vcIt, vcIts] at h ⊢
    split at h
    · exact ⟨fun e => I.vc_mono (h.1 e) hk, fun e => hk _ (h.2 e)⟩
    · exact hk _ h
    · exact h.elim

theorem vcIts_mono {P : Program} : ∀ {l : List It} {K K' : St → Prop} {st : St}, vcIts P l K st → (∀ s, K s → K' s) → vcIts P l K' st := by
  intro l
  induction l with
  | nil => intro K K' st h hk; exact hk _ h
  | cons it l ih => intro K K' st h hk; rw [vcIts_cons] at h ⊢; exact vcIt_mono h fun s hs => ih hs hk

theorem vcIts_append {P : Program} : ∀ {l l' : List It} {K : St → Prop} {st : St}, vcIts P (l ++ l') K st = vcIts P l (vcIts P l' K) st := by
  intro l
  induction l with
  | nil => intro l' K st; rfl
  | cons it l ih =>
    intro l' K st
    rw [List.cons_append, vcIts_cons, vcIts_cons]
    congr 1
    funext s
    exact ih

theorem upGuard {st : St} {s : Nat} {b : Bool} (h : gt st.sl s = .a (.bool b)) : ({ st with sl := up st.sl s (.bool b) } : St) = st := by
  have : up st.sl s (.bool b) = st.sl := by
    funext t; simp only [up]; split
    · next e => subst e; exact h.symm
    · rfl
  rw [this]

theorem vcIt_put {P : Program} {it : It} {K : St → Prop} {st : St} {d : Nat} {v : V} (hf : it.free = true) (hr : d ∉ it.rd) (hw : d ∉ it.wr) (h : vcIt P it K (st.put (some d) v)) :
    vcIt P it (fun s => K (s.put (some d) v)) st := by
  cases it with
  | g i => exact I.vc_put (i := i) hf hr hw h
  | o j i => exact I.vc_put (i := i) hf hr hw h
  | gd j s want d' i =>
    simp only [It.rd, It.wr, List.mem_cons, List.mem_append, not_or] at hr hw
    have hs : gt (st.put (some d) v).sl s = gt st.sl s := if_neg hr.1
    simp only [vcIt, vcIts] at h ⊢
    rw [hs] at h
    have e2 : ∀ y, ({ st.put (some d) v with sl := up (st.put (some d) v).sl s y } : St) = ({ st with sl := up st.sl s y } : St).put (some d) v := by
      intro y
      simp only [St.put, St.mk.injEq, and_self, and_true]
      funext u
      simp only [up]
      have := hr.1
      by_cases a1 : s = u <;> by_cases a2 : d = u <;> simp_all
    split at h
    · next b e =>
      refine ⟨fun hb => ?_, fun hb => ?_⟩
      · have := h.1 hb
        rw [e2] at this
        exact I.vc_put hf hr.2 hw.2 this
      · have := h.2 hb
        rw [e2, put_comm hw.1] at this
        exact this
    · rw [put_comm hw.1] at h; exact h
    · exact h.elim

/-- What an item leaves as it was. -/
def OutIt (it : It) (st st' : St) : Prop :=
  (∀ t, t ∉ it.wr → gt st'.sl t = gt st.sl t) ∧ ∃ bl bc : Nat → Prop, hle bl bc st.hp st'.hp ∧ (it.i.quiet = true → ∀ k, ¬ bl k ∧ ¬ bc k) ∧ (it.i.isSt = true → ∀ k, ¬ bl k) ∧ ∀ t ∈ it.i.ap, ∀ k, (gt st.sl t).oid = some k → ¬ bl k ∧ ¬ bc k

theorem OutIt.none {it : It} {st st' : St} (h : ∀ t, t ∉ it.wr → gt st'.sl t = gt st.sl t) (hh : st'.hp = st.hp) : OutIt it st st' :=
  ⟨h, fun _ => False, fun _ => False, by rw [hh]; exact .refl _ _ _, fun _ _ => ⟨fun h => h, fun h => h⟩, fun _ _ h => h, fun _ _ _ _ => ⟨fun h => h, fun h => h⟩⟩

theorem vcIt_out {P : Program} {it : It} {K : St → Prop} {st : St} (hf : it.free = true) (h : vcIt P it K st) : vcIt P it (fun s => OutIt it st s ∧ K s) st := by
  cases it with
  | g i => exact I.vc_out (i := i) hf h
  | o j i => exact I.vc_out (i := i) hf h
  | gd j s want d i =>
    simp only [vcIt, vcIts] at h ⊢
    split at h
    · next b e =>
      refine ⟨fun hb => ?_, fun hb => ?_⟩
      · subst hb
        have := h.1 rfl
        rw [upGuard e] at this ⊢
        refine I.vc_mono (I.vc_out hf this) fun s' hs' => ⟨⟨fun t ht => hs'.1.1 t fun e => ht (by simp [It.wr, e]), hs'.1.2⟩, hs'.2⟩
      · have e' := e
        rw [hb] at e'
        have := h.2 hb
        rw [upGuard e'] at this ⊢
        exact ⟨.none (fun t ht => gt_put fun e => ht (by simp only [It.wr, List.mem_append]; exact .inl e)) (put_hp _ _ _), this⟩
    · exact ⟨.none (fun t ht => gt_put fun e => ht (by simp only [It.wr, List.mem_append]; exact .inl e)) (put_hp _ _ _), h⟩
    · exact h.elim

end Go.Abs
