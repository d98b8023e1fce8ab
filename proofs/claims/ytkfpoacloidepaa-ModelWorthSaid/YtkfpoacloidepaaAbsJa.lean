import Derived.Test.YtkfpoacloidepaaAbsJ
set_option linter.all false
/- A part of a heap handed to a call, and taken back. -/
namespace Go.Abs
set_option linter.unusedVariables false

mutual
def V.ren (f : Nat → Nat) : V → V
  | .ptr id tot i j => .ptr (f id) tot i j
  | .own id es off len tot => .own (f id) es off len tot
  | .mp id => .mp (f id)
  | .agg cs => .agg (V.renL f cs)
  | .tup cs => .tup (V.renL f cs)
  | .fn g fs cs => .fn g (V.renL f fs) (V.renL f cs)
  | .ifc t x => .ifc t (x.ren f)
  | x => x
def V.renL (f : Nat → Nat) : List V → List V
  | [] => []
  | x :: l => x.ren f :: V.renL f l
end

theorem renL_map (f : Nat → Nat) (l : List V) : V.renL f l = l.map (V.ren f) := by induction l <;> simp_all [V.renL]

def O.ren (f : Nat → Nat) : O → O
  | .mem fz refs rows => .mem fz (refs.map f) (rows.map fun r => V.renL f r)
  | .map fz refs es => .map fz (refs.map f) (es.map fun e => (e.1, e.2.ren f))
  | o => o

/-- How the one's objects are the other's. -/
structure Ren (f : Nat → Nat) (c c0 : Cx) : Prop where
  hp : c0.hp = c.hp
  own : ∀ b, c0.own b → c.own b
  live : ∀ i, c.live i → c0.live (f i)
  hd : ∀ i h, c.live i → c0.hd (f i) = some h → c.hd i = some h

theorem Ren.strip {f : Nat → Nat} {c c0 : Cx} (h : Ren f c c0) {v : Value} {x : V} (hr : RV (c.only []) v x) : RV (c0.only []) v x :=
  hr.strip (by rw [h.hp]; exact Nat.le_refl _) fun b _ hn => ⟨by rw [h.hp], fun e => hn (h.own b e)⟩

theorem RV.ren {f : Nat → Nat} {c c0 : Cx} {v : Value} {x : V} (hr : RV c v x) (hR : Ren f c c0) : RV c0 v (x.ren f) := by
  induction hr generalizing c0 with
  | any => exact .any
  | a => exact .a
  | ptr hl h => exact .ptr (hR.live _ hl) fun g e => h g (hR.hd _ _ hl e)
  | own hl h => exact .own (hR.live _ hl) fun g e => h g (hR.hd _ _ hl e)
  | ref g hb hs hg hr ih =>
    exact .ref g (fun e => hb (hR.own _ e)) (by rw [hR.hp]; exact hs) (fun k x hk => by rw [hR.hp]; exact hg k x hk) fun k x hk => hR.strip (hr k x hk)
  | nilv => exact .nilv
  | view g hb hcap hlen hg hr ih =>
    exact .view g (fun e => ⟨fun q => (hb e).1 (hR.own _ q), by rw [hR.hp]; exact (hb e).2.1, (hb e).2.2⟩) hcap hlen (fun i row hi j x hj => by rw [hR.hp]; exact hg i row hi j x hj) fun i row hi j x hj => hR.strip (hr i row hi j x hj)
  | agg hl ho h ih =>
    refine .agg (by simp [renL_map, hl]) ho fun i v x h1 h2 => ?_
    rw [renL_map, List.getElem?_map, Option.map_eq_some_iff] at h2
    obtain ⟨y, hy, rfl⟩ := h2
    exact ih i v y h1 hy hR
  | tup hl h ih =>
    refine .tup (by simp [renL_map, hl]) fun i v x h1 h2 => ?_
    rw [renL_map, List.getElem?_map, Option.map_eq_some_iff] at h2
    obtain ⟨y, hy, rfl⟩ := h2
    exact ih i v y h1 hy hR
  | fn hl hl' h h' ih ih' =>
    refine .fn (by simp [renL_map, hl]) (by simp [renL_map, hl']) (fun i v x h1 h2 => ?_) fun i v x h1 h2 => ?_
    · rw [renL_map, List.getElem?_map, Option.map_eq_some_iff] at h2
      obtain ⟨y, hy, rfl⟩ := h2
      exact ih i v y h1 hy hR
    · rw [renL_map, List.getElem?_map, Option.map_eq_some_iff] at h2
      obtain ⟨y, hy, rfl⟩ := h2
      exact ih' i v y h1 hy hR
  | mp hl h => exact .mp (hR.live _ hl) fun g e => h g (hR.hd _ _ hl e)
  | mview hb hm hl hk hv ihk ihv =>
    exact .mview (fun e => hb (hR.own _ e)) (by rw [hR.hp]; exact hm) hl (fun i e x he hx => hR.strip (hk i e x he hx)) fun i e x he hx => hR.strip (hv i e x he hx)
  | ifc h ih => exact .ifc (ih hR)

theorem RO.ren {f : Nat → Nat} {c c0 : Cx} {h : Hd} {o : O} (hr : RO c h o) (hhp : c0.hp = c.hp) (hown : ∀ b, c0.own b ↔ c.own b) (hR : ∀ refs, refs = o.refs → Ren f (c.only refs) (c0.only (refs.map f))) : RO c0 h (o.ren f) := by
  cases o with
  | res => trivial
  | dead => trivial
  | sit s pos =>
    obtain ⟨q1, q2, q3, q4, q5⟩ := hr
    exact ⟨q1, q2, q3, q4, by rw [hhp]; exact q5⟩
  | mem fz refs rows =>
    have hR := hR refs rfl
    rcases hr with hr | ⟨q1, q2, q3, q4, q5, cs, E, fr, q6, q7, q8, q9⟩
    · exact .inl ⟨hr.1, by simp [hr.2.1], hr.2.2⟩
    · refine .inr ⟨q1, by simpa using q2, by simpa using q3, fun i row hi => ?_, fun e k => q5 e ((hown _).1 k), cs, E, fr, by rw [hhp]; exact q6, q7, q8, fun i row hi hlo j x hj => ?_⟩
      · rw [List.getElem?_map, Option.map_eq_some_iff] at hi
        obtain ⟨row', hi, rfl⟩ := hi
        rw [renL_map, List.length_map]; exact q4 i row' hi
      · rw [List.getElem?_map, Option.map_eq_some_iff] at hi
        obtain ⟨row', hi, rfl⟩ := hi
        rw [renL_map, List.getElem?_map, Option.map_eq_some_iff] at hj
        obtain ⟨y, hj, rfl⟩ := hj
        obtain ⟨v, e1, e2, e3⟩ := q9 i row' hi hlo j y hj
        exact ⟨v, e1, e2, e3.ren hR⟩
  | map fz refs es =>
    have hR := hR refs rfl
    obtain ⟨q1, ents, clock, q2, q3, q4, q5, q6⟩ := hr
    refine ⟨fun e k => q1 e ((hown _).1 k), ents, clock, by rw [hhp]; exact q2, by simpa using q3, q4, q5, fun i e x he hx => ?_⟩
    rw [List.getElem?_map, Option.map_eq_some_iff] at hx
    obtain ⟨y, hx, rfl⟩ := hx
    obtain ⟨g1, g2⟩ := q6 i e y he hx
    exact ⟨g1.strip (by show c.hp.size ≤ c0.hp.size; rw [hhp]; exact Nat.le_refl _) fun b _ hn => ⟨by show c0.hp[b]? = c.hp[b]?; rw [hhp], fun k => hn ((hown b).1 k)⟩, g2.ren hR⟩

/-- The chosen objects, by their places. -/
def idx (sel : List Nat) (i : Nat) : Nat := sel.idxOf i
def back (sel : List Nat) (n j : Nat) : Nat := if j < sel.length then sel.getD j 0 else n + (j - sel.length)
def sub (H : Heap) (sel : List Nat) : Heap := sel.map fun i => (H.getD i .dead).ren (idx sel)
def place (H : Heap) : List Nat → List O → Heap
  | i :: is, o :: os => place (H.set i o) is os
  | _, _ => H
def merge (H : Heap) (sel : List Nat) (H' : Heap) : Heap :=
  place H sel ((H'.take sel.length).map (O.ren (back sel H.length))) ++ (H'.drop sel.length).map (O.ren (back sel H.length))

/-- It may be handed over. -/
structure OkSel (H : Heap) (sel : List Nat) : Prop where
  nd : sel.Nodup
  lt : ∀ i ∈ sel, i < H.length
  nres : ∀ i ∈ sel, H.getD i .dead ≠ .res
  cl : ∀ i ∈ sel, ∀ k ∈ (H.getD i .dead).refs, k ∈ sel

theorem place_length : ∀ (sel : List Nat) (os : List O) (H : Heap), (place H sel os).length = H.length := by
  intro sel
  induction sel with
  | nil => intro os H; cases os <;> rfl
  | cons i is ih => intro os H; cases os with
    | nil => rfl
    | cons o os => simp [place, ih]

theorem place_ne : ∀ (sel : List Nat) (os : List O) (H : Heap) (k : Nat), k ∉ sel → (place H sel os)[k]? = H[k]? := by
  intro sel
  induction sel with
  | nil => intro os H k _; cases os <;> rfl
  | cons i is ih => intro os H k hk; cases os with
    | nil => rfl
    | cons o os =>
      simp only [List.mem_cons, not_or] at hk
      simp only [place]
      rw [ih _ _ _ hk.2, List.getElem?_set_ne (fun e => hk.1 e.symm)]

theorem place_at : ∀ (sel : List Nat) (os : List O) (H : Heap) (j : Nat), sel.Nodup → (∀ i ∈ sel, i < H.length) → j < sel.length → j < os.length → (place H sel os)[sel.getD j 0]? = os[j]? := by
  intro sel
  induction sel with
  | nil => intro os H j _ _ h; simp at h
  | cons i is ih =>
    intro os H j hn hl h h2
    cases os with
    | nil => simp at h2
    | cons o os =>
      simp only [place]
      rw [List.nodup_cons] at hn
      cases j with
      | zero =>
        simp only [List.getD_cons_zero, List.getElem?_cons_zero]
        rw [place_ne _ _ _ _ hn.1, List.getElem?_set_self (hl i (by simp))]
      | succ j =>
        simp only [List.getD_cons_succ, List.getElem?_cons_succ]
        exact ih os _ j hn.2 (fun k hk => by simpa using hl k (by simp [hk])) (by simpa using h) (by simpa using h2)

theorem idx_lt {sel : List Nat} {i : Nat} (h : i ∈ sel) : idx sel i < sel.length := List.idxOf_lt_length_of_mem h
theorem getD_idx {sel : List Nat} {i : Nat} (h : i ∈ sel) : sel.getD (idx sel i) 0 = i := by
  have := idx_lt h
  unfold idx at this ⊢
  simp only [List.getD, List.getElem?_eq_getElem this, Option.getD_some]
  exact List.getElem_idxOf this
theorem idx_getD {sel : List Nat} {j : Nat} (hn : sel.Nodup) (h : j < sel.length) : idx sel (sel.getD j 0) = j := by
  simp [List.getD, h, idx, List.Nodup.idxOf_getElem hn]
theorem getD_mem {sel : List Nat} {j : Nat} (h : j < sel.length) : sel.getD j 0 ∈ sel := by
  simp [List.getD, h]

theorem back_idx {sel : List Nat} {n i : Nat} (h : i ∈ sel) : back sel n (idx sel i) = i := by
  unfold back; rw [if_pos (idx_lt h), getD_idx h]

theorem back_inj {H : Heap} {sel : List Nat} (ok : OkSel H sel) {j j' : Nat} (h : back sel H.length j = back sel H.length j') : j = j' := by
  unfold back at h
  split at h <;> split at h
  · next h1 h2 => rw [← idx_getD ok.nd h1, ← idx_getD ok.nd h2, h]
  · next h1 h2 => have := ok.lt _ (getD_mem h1); omega
  · next h1 h2 => have := ok.lt _ (getD_mem h2); omega
  · omega

theorem merge_back {H H' : Heap} {sel : List Nat} (ok : OkSel H sel) (hl : sel.length ≤ H'.length) (j : Nat) : (merge H sel H')[back sel H.length j]? = (H'[j]?).map (O.ren (back sel H.length)) := by
  unfold merge
  generalize hf : O.ren (back sel H.length) = g
  unfold back
  split
  · next h =>
    rw [List.getElem?_append_left (by rw [place_length]; exact ok.lt _ (getD_mem h)), place_at _ _ _ _ ok.nd ok.lt h (by simp; omega)]
    simp [List.getElem?_take, h]
  · next h =>
    rw [List.getElem?_append_right (by rw [place_length]; omega), place_length, List.getElem?_map, List.getElem?_drop]
    congr 2; omega

theorem merge_out {H H' : Heap} {sel : List Nat} {i : Nat} (hi : i < H.length) (hn : i ∉ sel) : (merge H sel H')[i]? = H[i]? := by
  unfold merge
  rw [List.getElem?_append_left (by rw [place_length]; exact hi), place_ne _ _ _ _ hn]

/-- Every object is either one that was not handed over, or comes of the call's heap. -/
theorem merge_cases {H H' : Heap} {sel : List Nat} {i : Nat} {o : O} (ok : OkSel H sel) (hl : sel.length ≤ H'.length) (h : (merge H sel H')[i]? = some o) :
    (i < H.length ∧ i ∉ sel ∧ H[i]? = some o) ∨ ∃ j o', i = back sel H.length j ∧ H'[j]? = some o' ∧ o = o'.ren (back sel H.length) := by
  by_cases hi : i < H.length
  · by_cases hs : i ∈ sel
    · right
      have := merge_back (H' := H') ok hl (idx sel i)
      rw [back_idx hs, h] at this
      cases hq : H'[idx sel i]? with
      | none => rw [hq] at this; cases this
      | some o' =>
        rw [hq] at this
        exact ⟨idx sel i, o', (back_idx hs).symm, hq, by simpa using this⟩
    · exact .inl ⟨hi, hs, by rw [← merge_out (H' := H') hi hs]; exact h⟩
  · right
    have hb : i = back sel H.length (sel.length + (i - H.length)) := by
      unfold back; rw [if_neg (by omega)]; omega
    have := merge_back (H' := H') ok hl (sel.length + (i - H.length))
    rw [← hb, h] at this
    cases hq : H'[sel.length + (i - H.length)]? with
    | none => rw [hq] at this; cases this
    | some o' =>
      rw [hq] at this
      exact ⟨_, o', hb, hq, by simpa using this⟩

theorem ren_res {f : Nat → Nat} {o : O} : o.ren f = .res ↔ o = .res := by cases o <;> simp [O.ren]

theorem hdOf_ren {H0 H1 : Heap} {β0 β1 : Nat → Hd} {f : Nat → Nat} {i j : Nat} (h : H1[i]? = (H0[j]?).map (O.ren f)) (hb : β1 i = β0 j) : hdOf H1 β1 i = hdOf H0 β0 j := by
  unfold hdOf
  rw [h, hb]
  cases H0[j]? with
  | none => rfl
  | some o => cases o <;> simp [O.ren]

theorem ownsB_ren {H0 H1 : Heap} {β0 β1 : Nat → Hd} {f : Nat → Nat} {i j b : Nat} (h : H1[i]? = (H0[j]?).map (O.ren f)) (hb : β1 i = β0 j) : ownsB H1 β1 i b ↔ ownsB H0 β0 j b := by
  unfold ownsB
  rw [h, hb]
  cases H0[j]? with
  | none => exact Iff.rfl
  | some o =>
    cases o with
    | mem fz refs rows => cases fz <;> simp [O.ren]
    | map fz refs rows => cases fz <;> simp [O.ren]
    | _ => simp [O.ren]

theorem liveIn_ren {H0 H1 : Heap} {f : Nat → Nat} {i j : Nat} (h : H1[i]? = (H0[j]?).map (O.ren f)) : liveIn H1 i ↔ liveIn H0 j := by
  unfold liveIn
  rw [h]
  cases H0[j]? with
  | none => simp
  | some o => simp [ren_res]

section
variable {w w' : World} {H H' : Heap} {β β' : Nat → Hd} {F : Nat → Prop} {sel : List Nat}

def βsub (β : Nat → Hd) (sel : List Nat) : Nat → Hd := fun j => β (sel.getD j 0)
def Fsub (H : Heap) (β : Nat → Hd) (F : Nat → Prop) (sel : List Nat) : Nat → Prop := fun b => F b ∨ ∃ i, i ∉ sel ∧ ownsB H β i b

theorem sub_get (ok : OkSel H sel) {j : Nat} (h : j < sel.length) : (sub H sel)[j]? = (H[sel.getD j 0]?).map (O.ren (idx sel)) := by
  have h1 := ok.lt _ (getD_mem h)
  unfold sub
  rw [List.getElem?_map, get_of_getD (d := 0) h, get_of_getD (d := O.dead) h1]; rfl
theorem sub_none {j : Nat} (h : ¬ j < sel.length) : (sub H sel)[j]? = none := by
  unfold sub; simp; omega

theorem owns_sub (ok : OkSel H sel) {j b : Nat} (h : ownsB (sub H sel) (βsub β sel) j b) : j < sel.length ∧ ownsB H β (sel.getD j 0) b := by
  by_cases hj : j < sel.length
  · exact ⟨hj, (ownsB_ren (sub_get ok hj) rfl).1 h⟩
  · unfold ownsB at h; rw [sub_none hj] at h; exact h.elim

theorem own_sub (ok : OkSel H sel) (b : Nat) : (cx w.heap (sub H sel) (βsub β sel) (Fsub H β F sel)).own b ↔ (cx w.heap H β F).own b := by
  constructor
  · rintro (⟨j, e⟩ | e | ⟨i, _, e⟩)
    · exact .inl ⟨_, (owns_sub ok e).2⟩
    · exact .inr e
    · exact .inl ⟨i, e⟩
  · rintro (⟨i, e⟩ | e)
    · by_cases hi : i ∈ sel
      · refine .inl ⟨idx sel i, ?_⟩
        rw [ownsB_ren (sub_get ok (idx_lt hi)) rfl, getD_idx hi]; exact e
      · exact .inr (.inr ⟨i, hi, e⟩)
    · exact .inr (.inl e)

theorem ren_sub (ok : OkSel H sel) {refs : List Nat} (hr : ∀ i ∈ refs, i ∈ sel) : Ren (idx sel) ((cx w.heap H β F).only refs) ((cx w.heap (sub H sel) (βsub β sel) (Fsub H β F sel)).only (refs.map (idx sel))) := by
  have key : ∀ i, i ∈ sel → (sub H sel)[idx sel i]? = (H[i]?).map (O.ren (idx sel)) := fun i hi => by rw [sub_get ok (idx_lt hi), getD_idx hi]
  refine ⟨rfl, fun b e => (own_sub (w := w) ok b).1 e, fun i hl => ⟨List.mem_map.2 ⟨i, hl.1, rfl⟩, (liveIn_ren (key i (hr i hl.1))).2 hl.2⟩, fun i h hl e => ?_⟩
  have e : hdOf (sub H sel) (βsub β sel) (idx sel i) = some h := e
  rw [hdOf_ren (key i (hr i hl.1)) (show βsub β sel (idx sel i) = β i by unfold βsub; rw [getD_idx (hr i hl.1)])] at e
  exact e

theorem sub_ok (hk : HOK w.heap H β F) (ok : OkSel H sel) : HOK w.heap (sub H sel) (βsub β sel) (Fsub H β F sel) := by
  refine ⟨fun j o hj => ?_, fun j j' b h1 h2 => ?_, fun b hb => ?_⟩
  · by_cases hlt : j < sel.length
    · rw [sub_get ok hlt, Option.map_eq_some_iff] at hj
      obtain ⟨o', ho', rfl⟩ := hj
      refine (hk.ro _ _ ho').ren rfl (own_sub ok) fun refs hrefs => ren_sub ok fun i hi => ok.cl _ (getD_mem hlt) i ?_
      rw [getD_some ho', ← hrefs]; exact hi
    · rw [sub_none hlt] at hj; cases hj
  · obtain ⟨g1, g2⟩ := owns_sub ok h1
    obtain ⟨g3, g4⟩ := owns_sub ok h2
    rw [← idx_getD ok.nd g1, ← idx_getD ok.nd g3, hk.one _ _ _ g2 g4]
  · rcases hb with hb | ⟨i, hi, hb⟩
    · refine ⟨(hk.far b hb).1, fun ⟨j, e⟩ => (hk.far b hb).2 ⟨_, (owns_sub ok e).2⟩⟩
    · refine ⟨hk.lt ⟨i, hb⟩, fun ⟨j, e⟩ => ?_⟩
      obtain ⟨g1, g2⟩ := owns_sub ok e
      have := hk.one _ _ _ hb g2
      exact hi (this ▸ getD_mem g1)

def βmerge (H : Heap) (β β' : Nat → Hd) (sel : List Nat) : Nat → Hd := fun i => if i ∈ sel then β' (idx sel i) else if i < H.length then β i else β' (sel.length + (i - H.length))

theorem βmerge_back (ok : OkSel H sel) (j : Nat) : βmerge H β β' sel (back sel H.length j) = β' j := by
  unfold βmerge back
  by_cases h : j < sel.length
  · rw [if_pos h, if_pos (getD_mem h), idx_getD ok.nd h]
  · rw [if_neg h, if_neg, if_neg (by omega)]
    · congr 1; omega
    · intro e; have := ok.lt _ e; omega

theorem βmerge_out {i : Nat} (hi : i < H.length) (hn : i ∉ sel) : βmerge H β β' sel i = β i := by
  unfold βmerge; rw [if_neg hn, if_pos hi]

theorem merge_adv (hk : HOK w.heap H β F) (ok : OkSel H sel) (hl : sel.length ≤ H'.length) (adv : Adv (Fsub H β F sel) w (sub H sel) (βsub β sel) w' H' β') :
    Adv F w H β w' (merge H sel H') (βmerge H β β' sel) ∧ Ren (back sel H.length) (cx w'.heap H' β' (Fsub H β F sel)) (cx w'.heap (merge H sel H') (βmerge H β β' sel) F) := by
  have hhd : ∀ j, hdOf (merge H sel H') (βmerge H β β' sel) (back sel H.length j) = hdOf H' β' j := fun j => hdOf_ren (merge_back ok hl j) (βmerge_back ok j)
  have hob : ∀ j b, ownsB (merge H sel H') (βmerge H β β' sel) (back sel H.length j) b ↔ ownsB H' β' j b := fun j b => ownsB_ren (merge_back ok hl j) (βmerge_back ok j)
  have hlv : ∀ j, liveIn (merge H sel H') (back sel H.length j) ↔ liveIn H' j := fun j => liveIn_ren (merge_back ok hl j)
  have hoo : ∀ i b, i < H.length → i ∉ sel → (ownsB (merge H sel H') (βmerge H β β' sel) i b ↔ ownsB H β i b) := fun i b hi hn => by
    unfold ownsB; rw [merge_out hi hn, βmerge_out hi hn]
  have hcase : ∀ i b, ownsB (merge H sel H') (βmerge H β β' sel) i b → (i < H.length ∧ i ∉ sel ∧ ownsB H β i b) ∨ ∃ j, i = back sel H.length j ∧ ownsB H' β' j b := by
    intro i b h
    cases hq : (merge H sel H')[i]? with
    | none => unfold ownsB at h; rw [hq] at h; exact h.elim
    | some o =>
      rcases merge_cases ok hl hq with ⟨h1, h2, _⟩ | ⟨j, o', rfl, _, _⟩
      · exact .inl ⟨h1, h2, (hoo i b h1 h2).1 h⟩
      · exact .inr ⟨j, rfl, (hob j b).1 h⟩
  have hltH : ∀ i b, ownsB H β i b → i < H.length := fun i b h => by
    cases hq : H[i]? with
    | none => unfold ownsB at h; rw [hq] at h; exact h.elim
    | some o => exact lt_of_get hq
  have hown : ∀ b, (cx w'.heap (merge H sel H') (βmerge H β β' sel) F).own b ↔ (cx w'.heap H' β' (Fsub H β F sel)).own b := by
    intro b
    constructor
    · rintro (⟨i, e⟩ | e)
      · rcases hcase i b e with ⟨_, h2, h3⟩ | ⟨j, _, h3⟩
        · exact .inr (.inr ⟨i, h2, h3⟩)
        · exact .inl ⟨j, h3⟩
      · exact .inr (.inl e)
    · rintro (⟨j, e⟩ | e | ⟨i, hn, e⟩)
      · exact .inl ⟨_, (hob j b).2 e⟩
      · exact .inr e
      · exact .inl ⟨i, (hoo i b (hltH i b e) hn).2 e⟩
  have hsame : ∀ b, b < w.heap.size → ¬ owned (sub H sel) (βsub β sel) b → w'.heap[b]? = w.heap[b]? := adv.ext.block
  have hsubown : ∀ b, owned (sub H sel) (βsub β sel) b → owned H β b := fun b ⟨j, e⟩ => ⟨_, (owns_sub ok e).2⟩
  have hle : (cx w.heap H β F).le (cx w'.heap (merge H sel H') (βmerge H β β' sel) F) := by
    refine ⟨adv.ext.size, fun b hb hno => ⟨hsame b hb fun e => hno (.inl (hsubown b e)), fun e => ?_⟩, fun i hi => ?_, fun i h' hi e => ?_⟩
    · rcases e with ⟨i, e⟩ | e
      · rcases hcase i b e with ⟨_, _, h3⟩ | ⟨j, _, h3⟩
        · exact hno (.inl ⟨i, h3⟩)
        · rcases adv.own b ⟨j, h3⟩ with h4 | h4
          · exact hno (.inl (hsubown b h4))
          · have : b < w.heap.size := hb
            omega
      · exact hno (.inr e)
    · by_cases hs : i ∈ sel
      · have h1 : liveIn (sub H sel) (idx sel i) := (liveIn_ren (show (sub H sel)[idx sel i]? = (H[i]?).map (O.ren (idx sel)) by rw [sub_get ok (idx_lt hs), getD_idx hs])).2 hi
        have := (hlv (idx sel i)).2 (adv.le.live _ h1)
        rw [back_idx hs] at this
        exact this
      · obtain ⟨o, ho, hr⟩ := hi
        exact ⟨o, by rw [merge_out (lt_of_get ho) hs]; exact ho, hr⟩
    · have e : hdOf (merge H sel H') (βmerge H β β' sel) i = some h' := e
      by_cases hs : i ∈ sel
      · have hsub : (sub H sel)[idx sel i]? = (H[i]?).map (O.ren (idx sel)) := by rw [sub_get ok (idx_lt hs), getD_idx hs]
        have hhs : hdOf (sub H sel) (βsub β sel) (idx sel i) = hdOf H β i := hdOf_ren hsub (by unfold βsub; rw [getD_idx hs])
        have h1 : liveIn (sub H sel) (idx sel i) := (liveIn_ren hsub).2 hi
        have h2 := hhd (idx sel i)
        rw [back_idx hs] at h2
        have := adv.le.hd (idx sel i) h' h1 (show hdOf H' β' (idx sel i) = some h' by rw [← h2]; exact e)
        rcases this with g | ⟨g0, g, g1⟩
        · exact .inl (show hdOf H β i = some h' by rw [← hhs]; exact g)
        · exact .inr ⟨g0, show hdOf H β i = some g0 by rw [← hhs]; exact g, g1⟩
      · obtain ⟨o, ho, hr⟩ := hi
        left
        show hdOf H β i = some h'
        rw [← e]
        unfold hdOf
        rw [merge_out (lt_of_get ho) hs, βmerge_out (lt_of_get ho) hs]
  have hren : Ren (back sel H.length) (cx w'.heap H' β' (Fsub H β F sel)) (cx w'.heap (merge H sel H') (βmerge H β β' sel) F) :=
    ⟨rfl, fun b e => (hown b).1 e, fun j hj => (hlv j).2 hj, fun j h _ e => by
      have e : hdOf (merge H sel H') (βmerge H β β' sel) (back sel H.length j) = some h := e
      rw [hhd j] at e; exact e⟩
  refine ⟨⟨⟨fun i o hi => ?_, fun i i' b h1 h2 => ?_, fun b hb => ?_⟩, hle, ⟨adv.ext.os, adv.ext.tape, adv.ext.output, adv.ext.size, fun b hb hn => hsame b hb fun e => hn (hsubown b e)⟩⟩, hren⟩
  · rcases merge_cases ok hl hi with ⟨h1, h2, h3⟩ | ⟨j, o', rfl, h3, rfl⟩
    · rw [βmerge_out h1 h2]
      have hro := hk.ro i o h3
      have hblk : ∀ b, (ownsB H β i b ∨ ¬ (cx w.heap H β F).own b) → b < w.heap.size → w'.heap[b]? = w.heap[b]? := by
        intro b hb hlt
        refine hsame b hlt fun ⟨j, e⟩ => ?_
        obtain ⟨g1, g2⟩ := owns_sub ok e
        rcases hb with hb | hb
        · exact h2 (hk.one _ _ _ hb g2 ▸ getD_mem g1)
        · exact hb (.inl ⟨_, g2⟩)
      cases o with
      | res => trivial
      | dead => trivial
      | sit s pos => exact hro.mono hle (hblk _ (.inl (by unfold ownsB; rw [h3])) (hp_lt hro.2.2.2.2)) fun hno => (hle.same _ (hp_lt hro.2.2.2.2) hno).2
      | mem fz refs rows =>
        rcases hro with hro | ⟨q1, q2, q3, q4, q5, cs, E, fr, q6, q7⟩
        · exact .inl hro
        · refine RO.mono (.inr ⟨q1, q2, q3, q4, q5, cs, E, fr, q6, q7⟩) hle (hblk _ ?_ (hp_lt q6)) fun hno => (hle.same _ (hp_lt q6) hno).2
          cases fz with
          | true => exact .inr (q5 rfl)
          | false => exact .inl (by unfold ownsB; rw [h3]; exact ⟨q1, rfl⟩)
      | map fz refs es =>
        obtain ⟨q1, ents, clock, q2, q3⟩ := hro
        refine RO.mono (o := .map fz refs es) ⟨q1, ents, clock, q2, q3⟩ hle (hblk _ ?_ (hp_lt q2)) fun hno => (hle.same _ (hp_lt q2) hno).2
        cases fz with
        | true => exact .inr (q1 rfl)
        | false => exact .inl (by unfold ownsB; rw [h3])
    · rw [βmerge_back ok]
      refine (adv.hok.ro j o' h3).ren rfl hown fun refs _ => ⟨rfl, fun b e => (hown b).1 e, fun k hk' => ⟨List.mem_map.2 ⟨k, hk'.1, rfl⟩, hren.live k hk'.2⟩, fun k h hk' e => hren.hd k h hk'.2 e⟩
  · rcases hcase i b h1 with ⟨a1, a2, a3⟩ | ⟨j, rfl, a3⟩ <;> rcases hcase i' b h2 with ⟨b1, b2, b3⟩ | ⟨j', rfl, b3⟩
    · exact hk.one _ _ _ a3 b3
    · exact ((adv.hok.far b (.inr ⟨i, a2, a3⟩)).2 ⟨j', b3⟩).elim
    · exact ((adv.hok.far b (.inr ⟨i', b2, b3⟩)).2 ⟨j, a3⟩).elim
    · rw [adv.hok.one _ _ _ a3 b3]
  · obtain ⟨g1, g2⟩ := adv.hok.far b (.inl hb)
    refine ⟨g1, fun ⟨i, e⟩ => ?_⟩
    rcases hcase i b e with ⟨_, _, a3⟩ | ⟨j, _, a3⟩
    · exact (hk.far b hb).2 ⟨i, a3⟩
    · exact g2 ⟨j, a3⟩

end
end Go.Abs
