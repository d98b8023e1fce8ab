import Derived.Test.YtclcciajmfocmaaGreatHl3
import Derived.KernelRfl
import Derived.Laws.Strings
import Derived.Sort.AssemblyPlain
set_option linter.all false
namespace Go.Abs
set_option linter.unusedVariables false

theorem TR.sup {c : Cx} {refs refs' : List Nat} {S : Nat → Prop} {u : Value} {x : Ce} (h : TR c refs S u x) (hs : ∀ k ∈ refs, k ∈ refs') : TR c refs' S u x := by
  induction h with
  | v h1 h => exact .v h1 (h.mono ⟨Nat.le_refl _, fun _ _ hn => ⟨rfl, hn⟩, fun k hl => ⟨hs _ hl.1, hl.2⟩, fun _ _ _ e => .inl e⟩)
  | nil => exact .nil
  | n had cs E g T hb hcap hsz hlen hg hr hT hS hd hd2 ih => exact .n had cs E g T hb hcap hsz hlen hg (fun i row hi j x hj => ih i row hi j x hj) hT hS hd hd2

theorem TR.congr {c : Cx} {refs : List Nat} {S S' : Nat → Prop} {u : Value} {x : Ce} (h : TR c refs S u x) (hs : ∀ k, S k ↔ S' k) : TR c refs S' u x := by
  have : S = S' := funext fun k => propext (hs k)
  exact this ▸ h

theorem TR.addr {c : Cx} {refs : List Nat} {S : Nat → Prop} {ad ad' : Addr} {n cap es : Nat} {rows : List (List Ce)} (h : TR c refs S (.slice (some ad) n cap) (.n es rows)) (ha : 0 < cap → ad' = ad) : TR c refs S (.slice (some ad') n cap) (.n es rows) := by
  cases h with
  | nil => exact .nil
  | n had cs E g T hb hcap hsz hlen hg hr hT hS hd hd2 => exact .n (fun hc => (ha hc).trans (had hc)) cs E g T hb hcap hsz hlen hg hr hT hS hd hd2

theorem TR.cell {c : Cx} {refs : List Nat} {S : Nat → Prop} {ad : Addr} {n cap es i j : Nat} {rows : List (List Ce)} {row : List Ce} {x : Ce} (h : TR c refs S (.slice (some ad) n cap) (.n es rows)) (hi : rows[i]? = some row) (hj : row[j]? = some x) :
    ∃ u Sx, TR c refs Sx u x ∧ (∀ k, Sx k → S k) ∧ (∀ b o, (0 < cap → ad = ⟨b, o, none⟩) → rows ≠ [] → ¬ Sx b ∧ S b) ∧ ∀ (c' : Cx) (refs' : List Nat), c'.hp = c.hp → (∀ S u x, TR c refs S u x → TR c' refs' S u x) → ∀ (y : Ce) (Sy : Nat → Prop), TR c' refs' Sy u y → (∀ k, Sy k → S k → Sx k) → TR c' refs' (fun k => (S k ∧ ¬ Sx k) ∨ Sy k) (.slice (some ad) n cap) (.n es (rows.set i (row.set j y))) := by
  have hn : n = rows.length := by cases h <;> rfl
  subst hn
  obtain ⟨b, o, cs, E, g, T, had, hb, hcap, hsz, hlen, hg, hr, hT, hS, hd, hd2⟩ := h.inv (.inl (by rintro rfl; simp at hi))
  refine ⟨g i j, T i j, hr i row hi j x hj, fun k hk => (hS k).2 (.inr ⟨i, j, hk⟩), fun b' o' h1 h2 => ?_, fun c' refs' hhp hup y Sy hy hdis => ?_⟩
  · have hc : 0 < cap := by cases rows with
      | nil => exact absurd rfl h2
      | cons => exact Nat.lt_of_lt_of_le (by simp) hcap
    have e := (h1 hc).symm.trans (had hc)
    injection e with e
    subst e
    exact ⟨hd i j, (hS _).2 (.inl rfl)⟩
  · have hl : (rows.set i (row.set j y)).length = rows.length := List.length_set
    rw [← hl]
    have key : ∀ i' row', (rows.set i (row.set j y))[i']? = some row' → ∀ j' x', row'[j']? = some x' → (i' = i ∧ j' = j ∧ x' = y) ∨ (¬ (i' = i ∧ j' = j) ∧ ∃ r0, rows[i']? = some r0 ∧ r0[j']? = some x') := by
      intro i' row' h1 j' x' h2
      by_cases hii : i' = i
      · subst hii
        rw [get_set hi] at h1
        cases h1
        by_cases hjj : j' = j
        · subst hjj
          rw [get_set hj] at h2
          cases h2
          exact .inl ⟨rfl, rfl, rfl⟩
        · rw [getElem?_set_ne' hjj] at h2
          exact .inr ⟨fun e => hjj e.2, row, hi, h2⟩
      · rw [getElem?_set_ne' hii] at h1
        exact .inr ⟨fun e => hii e.1, row', h1, h2⟩
    refine .n had cs E g (fun i' j' k => if i' = i ∧ j' = j then Sy k else T i' j' k) (hhp ▸ hb) (by omega) hsz (fun i' row' h1 => ?_) (fun i' row' h1 j' x' h2 => ?_) (fun i' row' h1 j' x' h2 => ?_) (fun i' j' k h1 => ?_) (fun k => ⟨fun h1 => ?_, fun h1 => ?_⟩) (fun i' j' h1 => ?_) fun i1 j1 i2 j2 k h1 h2 => ?_
    · by_cases hii : i' = i
      · subst hii
        rw [get_set hi] at h1
        cases h1
        rw [List.length_set]; exact hlen _ _ hi
      · rw [getElem?_set_ne' hii] at h1
        exact hlen _ _ h1
    · rcases key i' row' h1 j' x' h2 with ⟨rfl, rfl, rfl⟩ | ⟨_, r0, h3, h4⟩
      · exact hg _ _ hi _ _ hj
      · exact hg _ _ h3 _ _ h4
    · rcases key i' row' h1 j' x' h2 with ⟨rfl, rfl, rfl⟩ | ⟨h5, r0, h3, h4⟩
      · simpa using hy
      · have : (fun k => if i' = i ∧ j' = j then Sy k else T i' j' k) = T i' j' := by funext k; rw [if_neg h5]
        rw [this]
        exact hup _ _ _ (hr _ _ h3 _ _ h4)
    · by_cases hij : i' = i ∧ j' = j
      · obtain ⟨rfl, rfl⟩ := hij
        exact ⟨row.set j' y, y, get_set hi, get_set hj⟩
      · rw [if_neg hij] at h1
        obtain ⟨r0, x0, h2, h3⟩ := hT _ _ _ h1
        by_cases hii : i' = i
        · subst hii
          rw [hi] at h2; cases h2
          have hjj : j' ≠ j := fun e => hij ⟨rfl, e⟩
          exact ⟨_, x0, get_set hi, by rw [getElem?_set_ne' hjj]; exact h3⟩
        · exact ⟨r0, x0, by rw [getElem?_set_ne' hii]; exact h2, h3⟩
    · rcases h1 with ⟨h1, h2⟩ | h1
      · rcases (hS k).1 h1 with h3 | ⟨i', j', h3⟩
        · exact .inl h3
        · refine .inr ⟨i', j', ?_⟩
          have : ¬ (i' = i ∧ j' = j) := by rintro ⟨rfl, rfl⟩; exact h2 h3
          rw [if_neg this]; exact h3
      · exact .inr ⟨i, j, by rw [if_pos ⟨rfl, rfl⟩]; exact h1⟩
    · rcases h1 with rfl | ⟨i', j', h1⟩
      · exact .inl ⟨(hS _).2 (.inl rfl), hd _ _⟩
      · by_cases hij : i' = i ∧ j' = j
        · rw [if_pos hij] at h1; exact .inr h1
        · rw [if_neg hij] at h1
          exact .inl ⟨(hS _).2 (.inr ⟨_, _, h1⟩), fun e => hij (hd2 _ _ _ _ _ h1 e)⟩
    · by_cases hij : i' = i ∧ j' = j
      · rw [if_pos hij] at h1
        exact hd _ _ (hdis _ h1 ((hS _).2 (.inl rfl)))
      · rw [if_neg hij] at h1
        exact hd _ _ h1
    · by_cases h3 : i1 = i ∧ j1 = j <;> by_cases h4 : i2 = i ∧ j2 = j
      · exact ⟨h3.1.trans h4.1.symm, h3.2.trans h4.2.symm⟩
      · rw [if_pos h3] at h1; rw [if_neg h4] at h2
        exact absurd (hd2 _ _ _ _ _ h2 (hdis _ h1 ((hS _).2 (.inr ⟨_, _, h2⟩)))) h4
      · rw [if_neg h3] at h1; rw [if_pos h4] at h2
        exact absurd (hd2 _ _ _ _ _ h1 (hdis _ h2 ((hS _).2 (.inr ⟨_, _, h1⟩)))) h3
      · rw [if_neg h3] at h1; rw [if_neg h4] at h2
        exact hd2 _ _ _ _ _ h1 h2

/-- Objects told otherwise, in the same memory. -/
theorem HOK.rearr {hp : Array Obj} {H H' : Heap} {β β' : Nat → Hd} {F K : Nat → Prop} (hk : HOK hp H β F)
    (hsame : ∀ k, ¬ K k → H'[k]? = H[k]? ∧ β' k = β k) (hliv : ∀ k, K k → liveIn H k → liveIn H' k) (hhd : ∀ k g', K k → liveIn H k → hdOf H' β' k = some g' → hdOf H β k = some g')
    (hown : ∀ k b, K k → ownsB H' β' k b → ∃ k0, K k0 ∧ ownsB H β k0 b) (hone : ∀ k k' b, K k → K k' → ownsB H' β' k b → ownsB H' β' k' b → k = k')
    (hro : (cx hp H β F).le (cx hp H' β' F) → ∀ k o, K k → H'[k]? = some o → RO (cx hp H' β' F) (β' k) o) :
    HOK hp H' β' F ∧ (cx hp H β F).le (cx hp H' β' F) := by
  have hob : ∀ k b, ¬ K k → (ownsB H' β' k b ↔ ownsB H β k b) := fun k b hn => by unfold ownsB; rw [(hsame k hn).1, (hsame k hn).2]
  have hoo : ∀ b, owned H' β' b → owned H β b := by
    rintro b ⟨k, h⟩
    by_cases hK : K k
    · obtain ⟨k0, _, h0⟩ := hown k b hK h
      exact ⟨k0, h0⟩
    · exact ⟨k, (hob k b hK).1 h⟩
  have hle : (cx hp H β F).le (cx hp H' β' F) := by
    refine ⟨Nat.le_refl _, fun b hb hn => ⟨rfl, fun e => hn (e.imp (hoo b) id)⟩, fun k hl => ?_, fun k g' hl hg => ?_⟩
    · by_cases hK : K k
      · exact hliv k hK hl
      · obtain ⟨o, h1, h2⟩ := hl
        exact ⟨o, (hsame k hK).1.trans h1, h2⟩
    · by_cases hK : K k
      · exact .inl (hhd k g' hK hl hg)
      · refine .inl ?_
        have hg' : hdOf H' β' k = some g' := hg
        show hdOf H β k = some g'
        unfold hdOf at hg' ⊢
        rw [(hsame k hK).1, (hsame k hK).2] at hg'
        exact hg'
  refine ⟨⟨fun k o ho => ?_, fun k k' b h1 h2 => ?_, fun b hb => ⟨(hk.far b hb).1, fun e => (hk.far b hb).2 (hoo b e)⟩⟩, hle⟩
  · by_cases hK : K k
    · exact hro hle k o hK ho
    · rw [(hsame k hK).1] at ho
      rw [(hsame k hK).2]
      exact (hk.ro k o ho).mono hle rfl (fun hn e => hn (e.imp (hoo _) id)) fun _ _ _ _ _ _ => rfl
  · by_cases hK : K k <;> by_cases hK' : K k'
    · exact hone k k' b hK hK' h1 h2
    · exfalso
      obtain ⟨k0, h3, h4⟩ := hown k b hK h1
      have := hk.one _ _ _ h4 ((hob k' b hK').1 h2)
      exact hK' (this ▸ h3)
    · exfalso
      obtain ⟨k0, h3, h4⟩ := hown k' b hK' h2
      have := hk.one _ _ _ h4 ((hob k b hK).1 h1)
      exact hK (this ▸ h3)
    · exact hk.one _ _ _ ((hob k b hK).1 h1) ((hob k' b hK').1 h2)
end Go.Abs

namespace Go.Abs
set_option linter.unusedVariables false
section
variable {w : World} {β : Nat → Hd} {F : Nat → Prop} {H : Heap}

theorem live_set {H : Heap} {id k : Nat} {o : O} (ho : o ≠ .res) (h : liveIn H k) : liveIn (H.set id o) k := by
  obtain ⟨q, h1, h2⟩ := h
  by_cases hk : k = id
  · subst hk; exact ⟨o, get_set h1, ho⟩
  · exact ⟨q, by rw [getElem?_set_ne' hk]; exact h1, h2⟩

/-- What the cell's own slice and its object lie in. -/
theorem own_cell {id es k : Nat} {refs' refs : List Nat} {rows' : List (List Ce)} {u : Value} (hk : HOK w.heap H β F) (hid : H[id]? = some (.tree refs' rows')) (hl : rows'.length = k)
    (hu : RV ((cx w.heap H β F).only refs) u (.own id es 0 k k)) : TR (cx w.heap H β F) refs' (fun b => ownsB H β id b) u (.n es rows') := by
  have hd : hdOf H β id = some ((β id).wt k) := by unfold hdOf; rw [hid]; simp [hl]
  cases hu with
  | own hlive h =>
    obtain ⟨_, h2⟩ := h _ hd
    obtain ⟨_, hes, hs⟩ := h2 rfl
    have hob : ∀ b, ownsB H β id b ↔ (β id).nil = false ∧ ((β id).b = b ∨ (β id).sub b) := fun b => by unfold ownsB; rw [hid]
    have hes' : (β id).es = es := hes
    rcases hs with ⟨hn, ⟨ad, rfl⟩, hk0⟩ | ⟨hn, ad, rfl, _, had⟩
    · have hn' : (β id).nil = true := hn
      obtain rfl : rows' = [] := List.length_eq_zero_iff.1 (by omega)
      exact TR.nil.congr fun b => ⟨fun e => e.elim, fun e => by have := ((hob b).1 e).1; rw [hn'] at this; cases this⟩
    · have hn' : (β id).nil = false := hn
      rcases hk.ro id _ hid with hr | ⟨_, q2, _, q4, _⟩
      · rw [hr.1] at hn'; cases hn'
      · have hcap : ((β id).wt k).cap - (0 - ((β id).wt k).lo) = (β id).cap := by show (β id).cap - (0 - (β id).lo) = _; omega
        rw [hcap]
        rw [hes', hl] at q4
        refine (q4.addr fun hc => ?_).congr fun b => by rw [hob]; simp [hn']
        have := had (by show 0 - (β id).lo < (β id).cap; omega)
        rw [this]
        show (⟨(β id).b, (β id).o + (0 - (β id).lo) * (β id).es, none⟩ : Addr) = _
        simp

theorem adv_pack {id id' i j es k : Nat} {refs refs' : List Nat} {rows rows' : List (List Ce)} {row : List Ce} (hk : HOK w.heap H β F) (hid : H[id]? = some (.tree refs rows)) (hid' : H[id']? = some (.tree refs' rows')) (hne : id ≠ id')
    (hi : rows[i]? = some row) (hj : row[j]? = some (.v (.own id' es 0 k k))) (hlen : rows'.length = k) :
    ∃ β', Adv F w H β w ((H.set id' .dead).set id (.tree (refs ++ refs') (rows.set i (row.set j (.n es rows'))))) β' := by
  generalize hH' : (H.set id' .dead).set id (.tree (refs ++ refs') (rows.set i (row.set j (.n es rows')))) = H'
  have hid0 : (H.set id' O.dead)[id]? = some (.tree refs rows) := by rw [getElem?_set_ne' hne]; exact hid
  have e1 : H'[id]? = some (.tree (refs ++ refs') (rows.set i (row.set j (.n es rows')))) := by rw [← hH']; exact get_set hid0
  have e2 : H'[id']? = some .dead := by rw [← hH', getElem?_set_ne' (Ne.symm hne)]; exact get_set hid'
  have e3 : ∀ k, k ≠ id → k ≠ id' → H'[k]? = H[k]? := fun k h1 h2 => by rw [← hH', getElem?_set_ne' h1, getElem?_set_ne' h2]
  have hnn : (β id).nil = false ∧ (β id).lo = 0 ∧ ¬ (β id).sub (β id).b ∧ TR (cx w.heap H β F) refs (fun b => (β id).b = b ∨ (β id).sub b) (.slice (some ⟨(β id).b, (β id).o, none⟩) rows.length (β id).cap) (.n (β id).es rows) ∧ ∀ cs E fr, (cx w.heap H β F).hp[(β id).b]? = some (.cells cs E fr) → (β id).o + (β id).cap * (β id).es ≤ cs.size := by
    rcases hk.ro id _ hid with hr | hr
    · rw [hr.2.1] at hi; simp at hi
    · exact hr
  obtain ⟨q1, q2, q3, q4, q5⟩ := hnn
  obtain ⟨u, Sx, hx, hxs, hxb, hset⟩ := (q4.sup (refs' := refs ++ refs') fun k hk => List.mem_append.2 (.inl hk)).cell hi hj
  have hc := own_cell hk hid' hlen hx.val
  have ho1 : ∀ b, ownsB H β id b ↔ (β id).b = b ∨ (β id).sub b := fun b => by unfold ownsB; rw [hid]; simp [q1]
  have hsx := hx.vsub
  have hnew := hset _ _ rfl (fun _ _ _ h => h) (.n es rows') (ownsB H β id') (hc.sup fun k hk => List.mem_append.2 (.inr hk)) fun b h1 h2 => absurd (hk.one _ _ _ ((ho1 b).2 h2) h1) hne
  let β' := upd β id ((β id).ws fun b => (β id).sub b ∨ ownsB H β id' b)
  have ho2 : ∀ b, ownsB H' β' id b ↔ ((β id).b = b ∨ (β id).sub b) ∨ ownsB H β id' b := fun b => by
    unfold ownsB; rw [e1]
    simp only [β', upd_same, q1, true_and, or_assoc]
    unfold ownsB; exact Iff.rfl
  have hd2 : hdOf H' β' id = hdOf H β id := by
    unfold hdOf; rw [e1, hid]; simp only [β', upd_same, List.length_set]; rfl
  obtain ⟨h1, h2⟩ := hk.rearr (H' := H') (β' := β') (K := fun k => k = id ∨ k = id')
    (fun k hK => ⟨e3 k (fun e => hK (.inl e)) (fun e => hK (.inr e)), upd_ne β _ fun e => hK (.inl e)⟩)
    (fun k _ hl => by rw [← hH']; exact live_set (by simp) (live_set (by simp) hl))
    (fun k g' hK _ hg => by
      rcases hK with rfl | rfl
      · rw [← hd2]; exact hg
      · unfold hdOf at hg; rw [e2] at hg; cases hg)
    (fun k b hK hb => by
      rcases hK with rfl | rfl
      · rcases (ho2 b).1 hb with h | h
        · exact ⟨k, .inl rfl, (ho1 b).2 h⟩
        · exact ⟨id', .inr rfl, h⟩
      · unfold ownsB at hb; rw [e2] at hb; exact hb.elim)
    (fun k k' b hK hK' h1 h2 => by
      rcases hK with rfl | rfl
      · rcases hK' with rfl | rfl
        · rfl
        · unfold ownsB at h2; rw [e2] at h2; exact h2.elim
      · unfold ownsB at h1; rw [e2] at h1; exact h1.elim)
    (fun hle k o hK ho => by
      rcases hK with rfl | rfl
      · rw [e1] at ho; cases ho
        have hb : β' k = (β k).ws fun b => (β k).sub b ∨ ownsB H β id' b := upd_same _ _ _
        rw [hb]
        refine .inr ⟨q1, q2, fun e => ?_, ?_, q5⟩
        · rcases e with e | e
          · exact q3 e
          · exact hne (hk.one _ _ _ ((ho1 _).2 (.inl rfl)) e)
        · have := (hnew.mono (hle.only _) fun _ _ => rfl).congr (S' := fun b => (β k).b = b ∨ ((β k).sub b ∨ ownsB H β id' b)) fun b => by
            have := hsx b
            constructor
            · rintro (⟨h | h, _⟩ | h)
              · exact .inl h
              · exact .inr (.inl h)
              · exact .inr (.inr h)
            · rintro (h | h | h)
              · exact .inl ⟨.inl h, this⟩
              · exact .inl ⟨.inr h, this⟩
              · exact .inr h
          rw [List.length_set]
          exact this
      · rw [e2] at ho; cases ho; trivial)
  exact ⟨β', h1, h2, .refl _ _⟩

end
end Go.Abs

namespace Go.Abs
set_option linter.unusedVariables false
section
variable {w : World} {β : Nat → Hd} {F : Nat → Prop} {H : Heap}

/-- A cell's slice by itself: how an object that lies so would lie. -/
theorem TR.alone {c : Cx} {refs : List Nat} {S : Nat → Prop} {u : Value} {es : Nat} {rows : List (List Ce)} (h : TR c refs S u (.n es rows)) :
    ∃ hd : Hd, hd.es = es ∧ hd.lo = 0 ∧ (hd.wt rows.length).slice 0 rows.length u ∧ (∀ b, (hd.nil = false ∧ (hd.b = b ∨ hd.sub b)) ↔ S b) ∧ RO c hd (.tree refs rows) := by
  cases h with
  | nil =>
    refine ⟨⟨0, 0, 0, es, 0, true, 0, noSub⟩, rfl, rfl, .inl ⟨rfl, ⟨_, rfl⟩, rfl⟩, fun b => ⟨?_, fun e => e.elim⟩, .inl ⟨rfl, rfl, rfl⟩⟩
    rintro ⟨e, _⟩
    cases e
  | n had cs E g T hb hcap hsz hlen hg hr hT hS hd hd2 =>
    rename_i ad b o cap
    refine ⟨⟨b, o, cap, es, 0, false, 0, fun k => S k ∧ k ≠ b⟩, rfl, rfl, .inr ⟨rfl, ad, by simp [Hd.wt], by simp [Hd.wt], fun hc => ?_⟩, fun k => ?_, .inr ⟨rfl, rfl, fun e => e.2 rfl, ?_, fun cs' E' fr' e => ?_⟩⟩
    · have := had (by simpa [Hd.wt] using hc)
      simp [Hd.wt, this]
    · constructor
      · rintro ⟨_, rfl | e⟩
        · exact (hS _).2 (.inl rfl)
        · exact e.1
      · intro e
        by_cases hkb : b = k
        · exact ⟨rfl, .inl hkb⟩
        · exact ⟨rfl, .inr ⟨e, fun e => hkb e.symm⟩⟩
    · refine (TR.n (ad := ⟨b, o, none⟩) (fun _ => rfl) cs E g T hb hcap hsz hlen hg hr hT hS hd hd2).congr fun k => ?_
      constructor
      · intro e
        by_cases hkb : b = k
        · exact .inl hkb
        · exact .inr ⟨e, fun e => hkb e.symm⟩
      · rintro (rfl | e)
        · exact (hS _).2 (.inl rfl)
        · exact e.1
    · rw [hb] at e; cases e; exact hsz

theorem adv_unpack {id i j es : Nat} {refs : List Nat} {rows rows' : List (List Ce)} {row : List Ce} (hk : HOK w.heap H β F) (hid : H[id]? = some (.tree refs rows))
    (hi : rows[i]? = some row) (hj : row[j]? = some (.n es rows')) :
    ∃ β', Adv F w H β w (H.set id (.tree (H.length :: refs) (rows.set i (row.set j (.v (.own H.length es 0 rows'.length rows'.length))))) ++ [.tree refs rows']) β' := by
  generalize hH' : H.set id (.tree (H.length :: refs) (rows.set i (row.set j (.v (.own H.length es 0 rows'.length rows'.length))))) ++ [.tree refs rows'] = H'
  have hlt := lt_of_get hid
  have e1 : H'[id]? = some (.tree (H.length :: refs) (rows.set i (row.set j (.v (.own H.length es 0 rows'.length rows'.length))))) := by
    rw [← hH', List.getElem?_append_left (by rw [List.length_set]; exact hlt)]; exact get_set hid
  have e2 : H'[H.length]? = some (.tree refs rows') := by
    rw [← hH', List.getElem?_append_right (by rw [List.length_set]; exact Nat.le_refl _), List.length_set, Nat.sub_self]; rfl
  have e3 : ∀ k, k ≠ id → k ≠ H.length → H'[k]? = H[k]? := fun k h1 h2 => by
    rw [← hH']
    by_cases hkl : k < H.length
    · rw [List.getElem?_append_left (by rw [List.length_set]; exact hkl), getElem?_set_ne' h1]
    · rw [List.getElem?_append_right (by rw [List.length_set]; omega), List.length_set, List.getElem?_eq_none (by simp; omega), List.getElem?_eq_none (by omega)]
  have hne : id ≠ H.length := by omega
  have hnl : ∀ {P : Prop}, liveIn H H.length → P := fun ⟨o, h, _⟩ => by rw [List.getElem?_eq_none (Nat.le_refl _)] at h; cases h
  have hnn : (β id).nil = false ∧ (β id).lo = 0 ∧ ¬ (β id).sub (β id).b ∧ TR (cx w.heap H β F) refs (fun b => (β id).b = b ∨ (β id).sub b) (.slice (some ⟨(β id).b, (β id).o, none⟩) rows.length (β id).cap) (.n (β id).es rows) ∧ ∀ cs E fr, (cx w.heap H β F).hp[(β id).b]? = some (.cells cs E fr) → (β id).o + (β id).cap * (β id).es ≤ cs.size := by
    rcases hk.ro id _ hid with hr | hr
    · rw [hr.2.1] at hi; simp at hi
    · exact hr
  obtain ⟨q1, q2, q3, q4, q5⟩ := hnn
  obtain ⟨u, Sx, hx, hxs, hxb, hset⟩ := q4.cell hi hj
  have hxb' := hxb (β id).b (β id).o (fun _ => rfl) (fun e => by rw [e] at hi; simp at hi)
  obtain ⟨hd, a1, a2, a3, a4, a5⟩ := hx.alone
  have ho1 : ∀ b, ownsB H β id b ↔ (β id).b = b ∨ (β id).sub b := fun b => by unfold ownsB; rw [hid]; simp [q1]
  let β' := upd (upd β id ((β id).ws fun b => (β id).sub b ∧ ¬ Sx b)) H.length hd
  have b1 : β' id = (β id).ws fun b => (β id).sub b ∧ ¬ Sx b := by simp only [β']; rw [upd_ne _ _ hne, upd_same]
  have b2 : β' H.length = hd := upd_same _ _ _
  have ho2 : ∀ b, ownsB H' β' id b ↔ ((β id).b = b ∨ (β id).sub b) ∧ ¬ Sx b := fun b => by
    unfold ownsB; rw [e1]
    simp only [b1, q1, true_and]
    constructor
    · rintro (rfl | h)
      · exact ⟨.inl rfl, hxb'.1⟩
      · exact ⟨.inr h.1, h.2⟩
    · rintro ⟨h | h, h2⟩
      · exact .inl h
      · exact .inr ⟨h, h2⟩
  have ho3 : ∀ b, ownsB H' β' H.length b ↔ Sx b := fun b => by
    unfold ownsB; rw [e2]; simp only [b2]; exact a4 b
  have hd2 : hdOf H' β' id = hdOf H β id := by
    unfold hdOf; rw [e1, hid]; simp only [b1, List.length_set]; rfl
  have hd3 : hdOf H' β' H.length = some (hd.wt rows'.length) := by
    unfold hdOf; rw [e2]; simp only [b2]
  obtain ⟨h1, h2⟩ := hk.rearr (H' := H') (β' := β') (K := fun k => k = id ∨ k = H.length)
    (fun k hK => ⟨e3 k (fun e => hK (.inl e)) (fun e => hK (.inr e)), by simp only [β']; rw [upd_ne _ _ fun e => hK (.inr e), upd_ne _ _ fun e => hK (.inl e)]⟩)
    (fun k hK hl => by
      rcases hK with rfl | rfl
      · exact ⟨_, e1, by simp⟩
      · exact hnl hl)
    (fun k g' hK hl hg => by
      rcases hK with rfl | rfl
      · rw [← hd2]; exact hg
      · exact hnl hl)
    (fun k b hK hb => by
      rcases hK with rfl | rfl
      · exact ⟨k, .inl rfl, (ho1 b).2 ((ho2 b).1 hb).1⟩
      · exact ⟨id, .inl rfl, (ho1 b).2 (hxs b ((ho3 b).1 hb))⟩)
    (fun k k' b hK hK' h1 h2 => by
      rcases hK with rfl | rfl <;> rcases hK' with rfl | rfl
      · rfl
      · exact absurd ((ho3 b).1 h2) ((ho2 b).1 h1).2
      · exact absurd ((ho3 b).1 h1) ((ho2 b).1 h2).2
      · rfl)
    (fun hle k o hK ho => by
      rcases hK with rfl | rfl
      · rw [e1] at ho; cases ho
        rw [b1]
        refine .inr ⟨q1, q2, fun e => q3 e.1, ?_, q5⟩
        have hone := hx.one
        have hown : RV ((cx w.heap H' β' F).only (H.length :: refs)) u (.own H.length es 0 rows'.length rows'.length) := by
          refine .own ⟨List.mem_cons_self, ⟨_, e2, by simp⟩⟩ fun h hh => ?_
          have hh' : hdOf H' β' H.length = some h := hh
          rw [hd3] at hh'
          cases hh'
          exact ⟨Nat.le_refl _, fun _ => ⟨by show hd.lo ≤ 0; omega, a1, a3⟩⟩
        have := hset (cx w.heap H' β' F) (H.length :: refs) rfl (fun S u x h => (h.mono (hle.only _) fun _ _ => rfl).sup fun k hk => List.mem_cons_of_mem _ hk) _ noSub (.v hone hown) (fun k h => h.elim)
        rw [List.length_set]
        refine this.congr fun b => ?_
        constructor
        · rintro (⟨h | h, h2⟩ | h)
          · exact .inl h
          · exact .inr ⟨h, h2⟩
          · exact h.elim
        · rintro (rfl | h)
          · exact .inl ⟨.inl rfl, hxb'.1⟩
          · exact .inl ⟨.inr h.1, h.2⟩
      · rw [e2] at ho; cases ho
        rw [b2]
        exact a5.mono hle rfl (fun hn e => hn (e.imp (fun ⟨k0, h0⟩ => by
          by_cases hA : k0 = id
          · subst hA; exact ⟨k0, (ho1 _).2 ((ho2 _).1 h0).1⟩
          · by_cases hB : k0 = H.length
            · subst hB; exact ⟨id, (ho1 _).2 (hxs _ ((ho3 _).1 h0))⟩
            · refine ⟨k0, ?_⟩
              unfold ownsB at h0 ⊢
              have : β' k0 = β k0 := by simp only [β']; rw [upd_ne _ _ hB, upd_ne _ _ hA]
              rw [e3 k0 hA hB, this] at h0
              exact h0) fun e => e)) fun _ _ _ _ _ _ => rfl)
  exact ⟨β', h1, h2, .refl _ _⟩

end
end Go.Abs

/- Contracts: what a call leaves that its caller has no use for. -/
namespace Go.Abs
set_option linter.unusedVariables false

theorem hok_trim {n : Nat} {F : Nat → Prop} {w : World} {β : Nat → Hd} {H : Heap} (hk : HOK w.heap H β F) :
    HOK w.heap ((H.take n).map (limO n)) β F ∧ (∀ id b, ownsB ((H.take n).map (limO n)) β id b → ownsB H β id b) ∧ (∀ id g, hdOf ((H.take n).map (limO n)) β id = some g → hdOf H β id = some g) ∧ (∀ id, id < n → liveIn H id → liveIn ((H.take n).map (limO n)) id) ∧
      ∀ refs : List Nat, (∀ i ∈ refs, i < n) → ((cx w.heap H β F).only refs).le ((cx w.heap ((H.take n).map (limO n)) β F).only refs) := by
  have hget : ∀ {id : Nat} {o : O}, ((H.take n).map (limO n))[id]? = some o → id < n ∧ ∃ o', H[id]? = some o' ∧ o = limO n o' := by
    intro id o h
    simp only [List.getElem?_map, Option.map_eq_some_iff] at h
    obtain ⟨o', h, rfl⟩ := h
    rw [List.getElem?_take] at h
    split at h
    · next hlt => exact ⟨hlt, o', h, rfl⟩
    · cases h
  have hown : ∀ id b, ownsB ((H.take n).map (limO n)) β id b → ownsB H β id b := by
    intro id b h
    unfold ownsB at h
    cases h1 : ((H.take n).map (limO n))[id]? with
    | none => rw [h1] at h; exact h.elim
    | some o =>
      obtain ⟨hlt, o', h2, rfl⟩ := hget h1
      rw [h1] at h
      unfold ownsB
      rw [h2]
      unfold limO at h
      split at h
      · next e =>
        split at e
        · injection e with e; subst e; exact h
        · cases e
      · next e =>
        split at e
        · injection e with e; subst e; exact h
        · cases e
      · next e =>
        split at e
        · injection e with e; subst e; exact h
        · cases e
      · next e =>
        split at e
        · injection e with e; subst e; exact h
        · cases e
      · exact h.elim
  have hhd : ∀ id g, hdOf ((H.take n).map (limO n)) β id = some g → hdOf H β id = some g := by
    intro id g h
    unfold hdOf at h
    cases h1 : ((H.take n).map (limO n))[id]? with
    | none => rw [h1] at h; cases h
    | some o =>
      obtain ⟨hlt, o', h2, rfl⟩ := hget h1
      rw [h1] at h
      unfold hdOf
      rw [h2]
      unfold limO at h
      split at h
      · next e =>
        split at e
        · injection e with e; subst e; exact h
        · cases e
      · next e =>
        split at e
        · injection e with e; subst e; exact h
        · cases e
      · next e =>
        split at e
        · injection e with e; subst e; exact h
        · cases e
      · next e =>
        split at e
        · injection e with e; subst e; exact h
        · cases e
      · cases h
  have hlive : ∀ id, id < n → liveIn H id → liveIn ((H.take n).map (limO n)) id := by
    rintro id hlt ⟨o, h1, h2⟩
    refine ⟨limO n o, ?_, ?_⟩
    · simp [List.getElem?_take, hlt, h1]
    · unfold limO; split
      · exact h2
      · intro e; cases e
  have hle : ∀ refs : List Nat, (∀ i ∈ refs, i < n) → ((cx w.heap H β F).only refs).le ((cx w.heap ((H.take n).map (limO n)) β F).only refs) := by
    intro refs hrefs
    refine ⟨Nat.le_refl _, fun b hb hno => ⟨rfl, fun e => hno ?_⟩, fun id hl => ⟨hl.1, hlive id (hrefs id hl.1) hl.2⟩, fun id g' hl e => .inl (hhd id g' e)⟩
    rcases e with ⟨id, e⟩ | e
    · exact .inl ⟨id, hown id b e⟩
    · exact .inr e
  refine ⟨⟨fun id o h => ?_, fun id id' b h1 h2 => hk.one id id' b (hown _ _ h1) (hown _ _ h2), fun b hb => ⟨(hk.far b hb).1, fun ⟨id, e⟩ => (hk.far b hb).2 ⟨id, hown _ _ e⟩⟩⟩, hown, hhd, hlive, hle⟩
  · obtain ⟨hlt, o', h2, rfl⟩ := hget h
    have hro := hk.ro id o' h2
    unfold limO
    split
    · next hrefs =>
      have hrefs' : ∀ i ∈ o'.refs, i < n := fun i hi => by simpa using List.all_eq_true.1 hrefs i hi
      have hownb : ∀ b, (cx w.heap ((H.take n).map (limO n)) β F).own b → (cx w.heap H β F).own b := by
        rintro b (⟨id, e⟩ | e)
        · exact .inl ⟨id, hown id b e⟩
        · exact .inr e
      cases o' with
      | res => trivial
      | dead => trivial
      | sit s pos => exact hro
      | tree refs rows =>
        rcases hro with hro | ⟨q1, q2, q3, q4, q5⟩
        · exact .inl hro
        · exact .inr ⟨q1, q2, q3, q4.mono (hle refs hrefs') fun _ _ => rfl, q5⟩
      | mem fz refs rows =>
        rcases hro with hro | ⟨q1, q2, q3, q4, q5, cs, E, fr, q6, q7, q8, q9⟩
        · exact .inl hro
        · refine .inr ⟨q1, q2, q3, q4, fun e k => q5 e (hownb _ k), cs, E, fr, q6, q7, q8, fun i row hi hlo j x hj => ?_⟩
          obtain ⟨v, e1, e2, e3⟩ := q9 i row hi hlo j x hj
          exact ⟨v, e1, e2, e3.mono (hle refs hrefs')⟩
      | map fz refs es =>
        obtain ⟨q1, ents, clock, q2, q3, q4, q5, q6⟩ := hro
        exact ⟨fun e k => q1 e (hownb _ k), ents, clock, q2, q3, q4, q5, fun i e x he hx => ⟨(q6 i e x he hx).1.mono (hle [] (by simp)), (q6 i e x he hx).2.mono (hle refs hrefs')⟩⟩
    · trivial

theorem DC.trim {P : Program} {f : FuncId} {xs : List V} {H : Heap} {Q Q' : V → Heap → Prop} (h : DC P f xs H Q)
    (hq : ∀ x H', Q x H' → ∃ n, H.length ≤ n ∧ (∀ i ∈ x.ids, i < n) ∧ Q' x ((H'.take n).map (limO n))) : DC P f xs H Q' := fun w β F vs hk hr =>
  (h w β F vs hk hr).mono fun e w' ⟨r, x, H', β2, h1, h2, h3, h4⟩ => by
    obtain ⟨n, hn, hx, hQ⟩ := hq x H' h4
    obtain ⟨t1, hown, hhd, hlive, hle⟩ := hok_trim (n := n) h2.hok
    refine ⟨r, x, _, β2, h1, ⟨t1, ⟨h2.le.size, fun b hb hno => ⟨(h2.le.same b hb hno).1, fun e => (h2.le.same b hb hno).2 (e.imp (fun ⟨id, e⟩ => ⟨id, hown _ _ e⟩) fun e => e)⟩, fun id hl => ?_, fun id g' hl e => h2.le.hd id g' hl (hhd _ _ e)⟩, h2.ext⟩, ?_, hQ⟩
    · have hlt : id < H.length := by obtain ⟨o, e, _⟩ := hl; exact lt_of_get e
      exact hlive id (Nat.lt_of_lt_of_le hlt hn) (h2.le.live id hl)
    · exact ((h3.onlyOf _ fun i hi => hi).mono (hle _ hx)).up
end Go.Abs

namespace Go.Abs.G
open Go.Proofs
set_option linter.unusedVariables false
set_option linter.unusedSimpArgs false
attribute [local simp] I.vc sub merge place

def U (s : List Dom) (T : List (List Ce)) : Heap := [.mem false [1, 2] [[.own 1 4 0 s.length s.length, .own 2 1 0 T.length T.length]], .mem false [] (s.map Dom.row), .tree [] T]
structure StOk (s : List Dom) (T : List (List Ce)) : Prop where
  n : s.length ≤ 64
  k : T.length ≤ 1000000
  d : ∀ d ∈ s, d.ok
  t : ∀ f, Ce.renR f T = T
def isB (s : List Dom) (x : Int) : Bool := decide (0 ≤ x) && decide (x < s.length)

theorem isS_spec {s : List Dom} {T : List (List Ce)} (hs : StOk s T) (x : Int) : DC Tryz.prog dom_Store_is.id [.ptr 0 1 0 0, V.i x] (U s T) (fun r H => r = .bool (isB s x) ∧ H = U s T) := by
  refine DC.of dom_Store_is.ok (by simp) ?_
  by_cases h : 0 ≤ x
  · simp [dom_Store_is.ir, dom_Store_is.rs, U, isB, h]
  · simp [dom_Store_is.ir, dom_Store_is.rs, U, isB, h]
theorem vars_spec {s : List Dom} {T : List (List Ce)} (hs : StOk s T) : DC Tryz.prog dom_Store_Vars.id [.ptr 0 1 0 0] (U s T) (fun r H => r = V.i s.length ∧ H = U s T) := by
  refine DC.of dom_Store_Vars.ok (by simp) ?_
  simp [dom_Store_Vars.ir, dom_Store_Vars.rs, U]
def Dom.size (d : Dom) : Nat := pop d.a + pop d.b
section
variable {s s' : List Dom} {T T' : List (List Ce)} {E : Heap}
@[simp] theorem U_len : (U s T).length = 3 := rfl
@[simp] theorem U_0 : (U s T)[0]? = some (.mem false [1, 2] [[.own 1 4 0 s.length s.length, .own 2 1 0 T.length T.length]]) := rfl
@[simp] theorem U_1 : (U s T)[1]? = some (.mem false [] (s.map Dom.row)) := rfl
@[simp] theorem U_2 : (U s T)[2]? = some (.tree [] T) := rfl
@[simp] theorem UE_0 : (U s T ++ E)[0]? = some (.mem false [1, 2] [[.own 1 4 0 s.length s.length, .own 2 1 0 T.length T.length]]) := rfl
@[simp] theorem UE_1 : (U s T ++ E)[1]? = some (.mem false [] (s.map Dom.row)) := rfl
@[simp] theorem UE_2 : (U s T ++ E)[2]? = some (.tree [] T) := rfl
@[simp] theorem U_clos : clos (U s T) 8 [0] = [0, 1, 2] := by simp [clos, addAll, O.refs, U]
@[simp] theorem UE_clos : clos (U s T ++ E) 8 [0] = [0, 1, 2] := by simp [clos, addAll, O.refs, U]
@[simp] theorem row_ren (f : Nat → Nat) (d : Dom) : V.renL f d.row = d.row := rfl
theorem U_ren (f : Nat → Nat) (h1 : f 1 = 1) (h2 : f 2 = 2) (ht : ∀ f, Ce.renR f T = T) : (U s T).map (O.ren f) = U s T := by
  simp [U, O.ren, V.renL, V.ren, h1, h2, ht, Function.comp_def]
theorem UE_sub (ht : ∀ f, Ce.renR f T = T) : sub (U s T ++ E) [0, 1, 2] = U s T := U_ren (idx [0, 1, 2]) rfl rfl ht
theorem U_sub (ht : ∀ f, Ce.renR f T = T) : sub (U s T) [0, 1, 2] = U s T := U_ren (idx [0, 1, 2]) rfl rfl ht
theorem UE_merge (ht : ∀ f, Ce.renR f T' = T') : merge (U s T ++ E) [0, 1, 2] (U s' T') = U s' T' ++ E := by
  have h := U_ren (s := s') (back [0, 1, 2] (U s T ++ E).length) rfl rfl ht
  have h1 : (U s' T').take 3 = U s' T' := rfl
  have h2 : (U s' T').drop 3 = [] := rfl
  simp only [merge, List.length_cons, List.length_nil, Nat.zero_add, Nat.reduceAdd, h1, h2, h, List.map_nil, List.append_nil]
  rfl
theorem U_merge (ht : ∀ f, Ce.renR f T' = T') : merge (U s T) [0, 1, 2] (U s' T') = U s' T' := by
  have h := U_ren (s := s') (back [0, 1, 2] (U s T).length) rfl rfl ht
  have h1 : (U s' T').take 3 = U s' T' := rfl
  have h2 : (U s' T').drop 3 = [] := rfl
  simp only [merge, List.length_cons, List.length_nil, Nat.zero_add, Nat.reduceAdd, h1, h2, h, List.map_nil, List.append_nil]
  rfl
theorem U_sel : OkSel (U s T) [0, 1, 2] := by
  simp [OkSel, O.refs, U]
theorem UE_sel : OkSel (U s T ++ E) [0, 1, 2] := by
  simp [OkSel, O.refs, U]
end
end Go.Abs.G


namespace Go.Abs.G
open Go.Proofs
set_option linter.unusedVariables false
set_option linter.unusedSimpArgs false
section
variable {s s' : List Dom} {T T' : List (List Ce)} {E : Heap}
@[simp] theorem U_clos1 : clos (U s T) 8 [1] = [1] := by simp [clos, addAll, O.refs, U]
end

theorem StOk.row {s : List Dom} {T : List (List Ce)} (hs : StOk s T) {x : Int} (h : isB s x = true) : ∃ i d, x = ((i : Nat) : Int) ∧ i < s.length ∧ s[i]? = some d ∧ d.ok ∧ (s.map Dom.row)[i]? = some d.row := by
  simp only [isB, Bool.and_eq_true, decide_eq_true_eq] at h
  have hlt : x.toNat < s.length := by omega
  exact ⟨x.toNat, s[x.toNat], by omega, hlt, by simp [hlt], hs.d _ (List.getElem_mem hlt), by simp [hlt]⟩

attribute [local simp] I.vc

end Go.Abs.G


namespace Go.Abs.G
open Go.Proofs
set_option linter.unusedVariables false
set_option linter.unusedSimpArgs false
attribute [local simp] I.vc
section
variable (d : Dom)
@[simp] theorem row_len : d.row.length = 4 := rfl
@[simp] theorem row_head : d.row.head? = some (V.i d.from') := rfl
@[simp] theorem row_0 : d.row[0]? = some (V.i d.from') := rfl
@[simp] theorem row_1 : d.row[1]? = some (V.i d.width) := rfl
@[simp] theorem row_2 : d.row[2]? = some (V.w d.a) := rfl
@[simp] theorem row_3 : d.row[3]? = some (V.w d.b) := rfl
@[simp] theorem row_0' (h) : d.row[0]'h = V.i d.from' := rfl
@[simp] theorem row_1' (h) : d.row[1]'h = V.i d.width := rfl
@[simp] theorem row_2' (h) : d.row[2]'h = V.w d.a := rfl
@[simp] theorem row_3' (h) : d.row[3]'h = V.w d.b := rfl
end
section
variable {s s' : List Dom} {T T' : List (List Ce)} {E : Heap}
@[simp] theorem UE_3 (o : O) : (U s T ++ (o :: E))[3]? = some o := rfl
@[simp] theorem UE_3' (o : O) (h) : (U s T ++ (o :: E))[3]'h = o := rfl
@[simp] theorem UE_0' (h) : (U s T ++ E)[0]'h = .mem false [1, 2] [[.own 1 4 0 s.length s.length, .own 2 1 0 T.length T.length]] := rfl
@[simp] theorem UE_1' (h) : (U s T ++ E)[1]'h = .mem false [] (s.map Dom.row) := rfl
@[simp] theorem UE_2' (h) : (U s T ++ E)[2]'h = .tree [] T := rfl
@[simp] theorem UE_4 (o o' : O) : (U s T ++ (o :: o' :: E))[4]? = some o' := rfl
@[simp] theorem UE_4' (o o' : O) (h) : (U s T ++ (o :: o' :: E))[4]'h = o' := rfl
@[simp] theorem UE_set3 (o o' : O) : (U s T ++ (o :: E)).set 3 o' = U s T ++ (o' :: E) := rfl
@[simp] theorem UE_set4 (o o1 o' : O) : (U s T ++ (o :: o1 :: E)).set 4 o' = U s T ++ (o :: o' :: E) := rfl
theorem trimU {P : Program} {f : FuncId} {xs : List V} {Q : V → Prop} {S' : V → List Dom} {T' : V → List (List Ce)} (h : DC P f xs (U s T) fun r H' => (∀ i ∈ r.ids, i < 3) ∧ Q r ∧ ∃ E, H' = U (S' r) (T' r) ++ E) :
    DC P f xs (U s T) fun r H' => Q r ∧ H' = U (S' r) (T' r) :=
  h.trim fun x H' ⟨h1, h2, E, h3⟩ => ⟨3, by simp, h1, h2, by rw [h3]; rfl⟩
theorem UE1_clos (rows : List (List V)) (E : Heap) : clos (U s T ++ (.mem false [] rows :: E)) 8 [3] = [3] := by simp [clos, addAll, O.refs, U]
theorem UE1_sel (rows : List (List V)) (E : Heap) : OkSel (U s T ++ (.mem false [] rows :: E)) [3] := by simp [OkSel, O.refs, U]
theorem UE1_sub (d : Dom) (E : Heap) : sub (U s T ++ (.mem false [] [d.row] :: E)) [3] = [.mem false [] [d.row]] := by simp [sub, U, O.ren]
theorem UE1_merge (d d' : Dom) (E : Heap) : merge (U s T ++ (.mem false [] [d.row] :: E)) [3] [.mem false [] [d'.row]] = U s T ++ (.mem false [] [d'.row] :: E) := by simp [merge, U, O.ren, place]
end

def hasB (s : List Dom) (x v : Int) : Bool := match s[x.toNat]? with
  | some d => decide (0 ≤ x) && (decide (d.from' ≤ v) && decide (v < d.from' + d.width)) && d.has (v - d.from').toNat
  | none => false

theorem hasS_spec {s : List Dom} {T : List (List Ce)} (hs : StOk s T) (x v : Int) (hv : I64 v) : DC Tryz.prog dom_Store_Has.id [.ptr 0 1 0 0, V.i x, V.i v] (U s T) (fun r H => r = .bool (hasB s x v) ∧ H = U s T) := by
  refine trimU (S' := fun _ => s) (T' := fun _ => T) (Q := fun r => r = .bool (hasB s x v)) ?_
  refine DC.of dom_Store_Has.ok (by simp) ?_
  unfold dom_Store_Has.ir
  refine vc_cut (fun st => gt st.sl 0 = .ptr 0 1 0 0 ∧ gt st.sl 1 = V.i x ∧ gt st.sl 2 = V.i v ∧ st.hp = U s T) (by simp) ?_
  rintro ⟨sl, hp, bs⟩ ⟨h0, h1, h2, rfl⟩
  refine vc_cut (fun st => isB s x = true ∧ gt st.sl 0 = .ptr 0 1 0 0 ∧ gt st.sl 1 = V.i x ∧ gt st.sl 2 = V.i v ∧ st.hp = U s T) ?_ ?_
  · simp [h0, h1, h2, V.idsL, V.ids, U_sub hs.t, U_sel]
    refine DC.mono (isS_spec hs x) ?_
    rintro r H ⟨rfl, rfl⟩
    cases h : isB s x
    · have : hasB s x v = false := by
        unfold hasB
        cases hx : s[x.toNat]? with
        | none => rfl
        | some d =>
          have hlt := lt_of_get hx
          simp only [isB, Bool.and_eq_false_iff, decide_eq_false_iff_not] at h
          have h0 : ¬ 0 ≤ x := by omega
          simp [h0]
      simp [U_merge hs.t, dom_Store_Has.rs, this, V.ids]
    · simp [U_merge hs.t, dom_Store_Has.rs]
  clear h0 h1 h2
  rintro ⟨sl, hp, bs⟩ ⟨h, h0, h1, h2, rfl⟩
  obtain ⟨i, d, rfl, hi, hd, hok, hr⟩ := hs.row h
  have hds : s[i] = d := by rw [List.getElem?_eq_getElem hi] at hd; injection hd
  refine vc_cut (fun st => gt st.sl 2 = V.i v ∧ gt st.sl 7 = .ptr 3 1 0 0 ∧ st.hp = U s T ++ [.mem false [] [d.row]]) ?_ ?_
  · simp [h0, h1, h2, h, hi, hds, Dom.row, U]
  clear h0 h1 h2
  rintro ⟨sl, hp, bs⟩ ⟨h2, h7, rfl⟩
  have f1 := hok.f
  have f2 := hok.w
  obtain ⟨v1, v2⟩ := hv
  have hw1 : IntKind.i64.wrap (d.from' + d.width) = d.from' + d.width := by rw [wrap64] <;> omega
  by_cases hin : d.from' ≤ v ∧ v < d.from' + d.width
  · obtain ⟨k, rfl⟩ : ∃ k : Nat, v = d.from' + k := ⟨(v - d.from').toNat, by omega⟩
    have hk : k < d.width := by omega
    have hw2 : IntKind.i64.wrap (d.from' + k - d.from') = (k : Int) := by rw [wrap64] <;> omega
    have e1 : d.from' + k - d.from' = k := by omega
    have e2 : d.from' ≤ d.from' + k := by omega
    have hB : hasB s i (d.from' + k) = d.has k := by
      unfold hasB
      simp [hd, e1, e2, hk]
    have hh := has_spec (rows := [d.row]) (d := d) (x := 0) (k := k) rfl hok (by omega)
    simp [h2, h7, UE1_clos, UE1_sel, UE1_sub, V.idsL, V.ids, hin, hw1, hw2, hB, hk] at hh ⊢
    refine DC.mono hh ?_
    rintro r H ⟨rfl, rfl⟩
    simp [UE1_merge, dom_Store_Has.rs, V.ids]

  · have hB : hasB s i v = false := by
      unfold hasB
      simp [hd]
      omega
    by_cases h3 : d.from' ≤ v
    · have h4 : ¬ v < d.from' + d.width := by omega
      simp [h2, h7, UE1_clos, UE1_sel, UE1_sub, V.idsL, V.ids, hw1, hB, h3, h4, dom_Store_Has.rs]
    · simp [h2, h7, UE1_clos, UE1_sel, UE1_sub, V.idsL, V.ids, hw1, hB, h3, dom_Store_Has.rs]
end Go.Abs.G


namespace Go.Abs.G
open Go.Proofs
set_option linter.unusedVariables false
set_option linter.unusedSimpArgs false
attribute [local simp] I.vc
section
variable {s s' : List Dom} {T T' : List (List Ce)} {E : Heap}
@[simp] theorem row_take (d : Dom) : List.take 4 d.row = d.row := rfl
@[simp] theorem row_idsL (d : Dom) : V.idsL d.row = [] := rfl
@[simp] theorem U_lim5 : (U s T).map (limO 5) = U s T := rfl
@[simp] theorem U_take5 (a b : O) : List.take 5 (U s T ++ [a, b]) = U s T ++ [a, b] := rfl
theorem UE2_clos (b rows : List (List V)) (E : Heap) : clos (U s T ++ (.mem false [] b :: .mem false [] rows :: E)) 8 [4] = [4] := by simp [clos, addAll, O.refs, U]
theorem UE2_sel (b rows : List (List V)) (E : Heap) : OkSel (U s T ++ (.mem false [] b :: .mem false [] rows :: E)) [4] := by simp [OkSel, O.refs, U]
theorem UE2_sub (b : List (List V)) (d : Dom) (E : Heap) : sub (U s T ++ (.mem false [] b :: .mem false [] [d.row] :: E)) [4] = [.mem false [] [d.row]] := by simp [sub, U, O.ren]
theorem UE2_merge (b : List (List V)) (d d' : Dom) (E : Heap) : merge (U s T ++ (.mem false [] b :: .mem false [] [d.row] :: E)) [4] [.mem false [] [d'.row]] = U s T ++ (.mem false [] b :: .mem false [] [d'.row] :: E) := by simp [merge, U, O.ren, place]
end

def cutTo (k v : Int) (d : Dom) : Nat → Dom
  | 0 => d
  | n + 1 => if goesB k v (d.from' + n) then (cutTo k v d n).drop n else cutTo k v d n
theorem drop_from (d : Dom) (k : Nat) : (d.drop k).from' = d.from' := by unfold Dom.drop; split <;> rfl
theorem drop_width (d : Dom) (k : Nat) : (d.drop k).width = d.width := by unfold Dom.drop; split <;> rfl
theorem drop_ok {d : Dom} (k : Nat) (h : d.ok) : (d.drop k).ok := by
  unfold Dom.drop; split
  · exact ⟨h.f, h.w, clr_lt _ _, h.b⟩
  · exact ⟨h.f, h.w, h.a, clr_lt _ _⟩
theorem cutTo_from (k v : Int) (d : Dom) : ∀ n, (cutTo k v d n).from' = d.from'
  | 0 => rfl
  | n + 1 => by unfold cutTo; split <;> simp [drop_from, cutTo_from k v d n]
theorem cutTo_width (k v : Int) (d : Dom) : ∀ n, (cutTo k v d n).width = d.width
  | 0 => rfl
  | n + 1 => by unfold cutTo; split <;> simp [drop_width, cutTo_width k v d n]
theorem cutTo_ok (k v : Int) {d : Dom} (h : d.ok) : ∀ n, (cutTo k v d n).ok
  | 0 => h
  | n + 1 => by unfold cutTo; split; exact drop_ok _ (cutTo_ok k v h n); exact cutTo_ok k v h n

def Dom.none (d : Dom) : Bool := decide (d.a = 0) && decide (d.b = 0)
def Dom.same (d e : Dom) : Bool := decide (d.a = e.a) && decide (d.b = e.b)
def cutS (s : List Dom) (k x v : Int) : List Dom × Bool × Bool :=
  if isB s x then match s[x.toNat]? with
    | some d => if (cutTo k v d d.width).none then (s, false, false) else (s.set x.toNat (cutTo k v d d.width), !(cutTo k v d d.width).same d, true)
    | none => (s, false, true)
  else (s, false, true)

theorem cut_spec {s : List Dom} {T : List (List Ce)} (hs : StOk s T) (k x v : Int) :
    DC Tryz.prog dom_Store_Cut.id [.ptr 0 1 0 0, .agg [V.i k, V.i x, V.i v]] (U s T) (fun r H => r = .tup [.bool (cutS s k x v).2.1, .bool (cutS s k x v).2.2] ∧ H = U (cutS s k x v).1 T) := by
  refine trimU (S' := fun _ => (cutS s k x v).1) (T' := fun _ => T) (Q := fun r => r = .tup [.bool (cutS s k x v).2.1, .bool (cutS s k x v).2.2]) ?_
  refine DC.of dom_Store_Cut.ok (by simp) ?_
  unfold dom_Store_Cut.ir
  obtain ⟨B, hB⟩ : ∃ B, B = O.mem false [] [[V.i k, V.i x, V.i v]] := ⟨_, rfl⟩
  refine vc_cut (fun st => gt st.sl 0 = .ptr 0 1 0 0 ∧ gt st.sl 3 = .ptr 3 1 0 0 ∧ st.hp = U s T ++ [B]) (by subst hB; simp) ?_
  rintro ⟨sl, hp, bs⟩ ⟨h0, h3, rfl⟩
  refine vc_cut (fun st => isB s x = true ∧ gt st.sl 0 = .ptr 0 1 0 0 ∧ gt st.sl 3 = .ptr 3 1 0 0 ∧ st.hp = U s T ++ [B]) ?_ ?_
  · subst hB
    simp [h0, h3, V.idsL, V.ids, UE_sub hs.t, UE_sel]
    refine DC.mono (isS_spec hs x) ?_
    rintro r H ⟨rfl, rfl⟩
    cases h : isB s x <;> simp [UE_merge hs.t, dom_Store_Cut.rs, cutS, h, V.ids, V.idsL]
  clear h0 h3
  rintro ⟨sl, hp, bs⟩ ⟨h, h0, h3, rfl⟩
  obtain ⟨i, d, rfl, hi, hd, hok, hr⟩ := hs.row h
  have hds : s[i] = d := by rw [List.getElem?_eq_getElem hi] at hd; injection hd
  have f1 := hok.f
  have f2 := hok.w
  refine vc_cut (fun st => gt st.sl 0 = .ptr 0 1 0 0 ∧ gt st.sl 3 = .ptr 3 1 0 0 ∧ gt st.sl 6 = .ptr 4 1 0 0 ∧ st.hp = U s T ++ [B, .mem false [] [d.row]]) ?_ ?_
  · subst hB; simp [h0, h3, h, hi, hds, U]
  clear h0 h3
  rintro ⟨sl, hp, bs⟩ ⟨h0, h3, h6, rfl⟩
  refine vc_cut (fun st => gt st.sl 0 = .ptr 0 1 0 0 ∧ gt st.sl 3 = .ptr 3 1 0 0 ∧ gt st.sl 6 = .ptr 4 1 0 0 ∧ st.hp = U s T ++ [B, .mem false [] [(cutTo k v d d.width).row]]) ?_ ?_
  · subst hB
    simp [h0, h3, h6]
    refine WI.mono (Q := fun e st => e = .exit 0 ∧ gt st.sl 0 = .ptr 0 1 0 0 ∧ gt st.sl 3 = .ptr 3 1 0 0 ∧ gt st.sl 6 = .ptr 4 1 0 0 ∧ st.hp = U s T ++ [.mem false [] [[V.i k, V.i i, V.i v]], .mem false [] [(cutTo k v d d.width).row]])
      (WI.loop 5 (by simp) (fun st => ∃ j, j ≤ d.width ∧ gt st.sl 0 = .ptr 0 1 0 0 ∧ gt st.sl 3 = .ptr 3 1 0 0 ∧ gt st.sl 6 = .ptr 4 1 0 0 ∧ gt st.sl 23 = V.i d.width ∧ gt st.sl 24 = V.i j ∧ st.hp = U s T ++ [.mem false [] [[V.i k, V.i i, V.i v]], .mem false [] [(cutTo k v d j).row]]) (fun st => (d.width - (gt st.sl 24).num).toNat) ?_ ?_) ?_
    · exact ⟨0, by simp [h0, h3, h6, cutTo]⟩
    · clear h0 h3 h6
      rintro ⟨sl, hp, bs⟩ ⟨j, hj, h0, h3, h6, h23, h24, rfl⟩
      by_cases hjl : j < d.width
      · have hw : IntKind.i64.wrap ((j : Int) + 1) = ((j + 1 : Nat) : Int) := by rw [wrap64] <;> omega
        have hw2 : IntKind.i64.wrap (d.from' + j) = d.from' + j := by rw [wrap64] <;> omega
        have hc := cutTo_from k v d j
        have hk := cutTo_ok k v hok j
        have hds := drop_spec (rows := [(cutTo k v d j).row]) (x := 0) (k := j) rfl hk (by omega)
        simp [dom_Store_Cut.b0, h0, h3, h6, h23, h24, hjl, hw, hw2, hc, UE2_clos, UE2_sel, V.idsL, V.ids]
        refine (goes_spec k i v _).use ?_
        cases hg : goesB k v (d.from' + j)
        · simp
          exact ⟨⟨j + 1, by omega, by omega, by simp [cutTo, hg]⟩, by omega⟩
        · simp [UE2_sub]
          refine DC.mono hds ?_
          rintro r H ⟨rfl, rfl⟩
          simp [UE2_merge]
          exact ⟨⟨j + 1, by omega, by omega, by simp [cutTo, hg]⟩, by omega⟩
      · obtain rfl : j = d.width := by omega
        simp [dom_Store_Cut.b0, h0, h3, h6, h23, h24]
    · rintro e ⟨sl, hp, bs⟩ ⟨rfl, h0, h3, h6, rfl⟩
      simp [h0, h3, h6]
  clear h0 h3 h6
  rintro ⟨sl, hp, bs⟩ ⟨h0, h3, h6, rfl⟩
  have hcw : cutS s k i v = if (cutTo k v d d.width).none then (s, false, false) else (s.set i (cutTo k v d d.width), !(cutTo k v d d.width).same d, true) := by
    unfold cutS; rw [if_pos h]; simp only [Int.toNat_natCast, hd]
  rw [hcw]
  generalize cutTo k v d d.width = d' at *
  subst hB
  refine vc_cut (fun st => d'.none = false ∧ gt st.sl 0 = .ptr 0 1 0 0 ∧ gt st.sl 3 = .ptr 3 1 0 0 ∧ gt st.sl 6 = .ptr 4 1 0 0 ∧ st.hp = U s T ++ [.mem false [] [[V.i k, V.i i, V.i v]], .mem false [] [d'.row]]) ?_ ?_
  · have hne : d'.none = (decide (d'.a = 0) && decide (d'.b = 0)) := rfl
    simp [h0, h3, h6, Dom.row, U, dom_Store_Cut.rs, V.ids, V.idsL]
    have hni : d'.none = true ↔ (d'.a = 0 ∧ d'.b = 0) := by simp [Dom.none]
    refine ⟨fun a b => ?_, fun hh => ?_⟩
    · have := hni.2 ⟨a, b⟩
      simp [this]
    · rw [Bool.eq_false_iff]
      intro e
      exact hh (hni.1 e).1 (hni.1 e).2
  clear h0 h3 h6
  rintro ⟨sl, hp, bs⟩ ⟨hn, h0, h3, h6, rfl⟩
  simp [h0, h3, h6, Dom.row, U, dom_Store_Cut.rs, V.ids, V.idsL, hn, hi, hds]
  rw [Bool.eq_iff_iff]
  simp [Dom.same]
  omega
end Go.Abs.G


namespace Go.Abs.G
open Go.Proofs
set_option linter.unusedVariables false
set_option linter.unusedSimpArgs false
attribute [local simp] I.vc

/-- A nil slice told as a slice without elements. -/
theorem DC.nilv {P : Program} {f : FuncId} {xs : List V} {H : Heap} {Q Q' : V → Heap → Prop} (es : Nat) (h : DC P f xs H Q) (hq : ∀ x H', Q x H' → Q' x H' ∨ (x = .a (.slice none 0 0) ∧ Q' (.view es []) H')) : DC P f xs H Q' := fun w β F vs hk hr =>
  (h w β F vs hk hr).mono fun e w' ⟨r, x, H', β2, h1, h2, h3, h4⟩ => by
    rcases hq x H' h4 with hQ | ⟨rfl, hQ⟩
    · exact ⟨r, x, H', β2, h1, h2, h3, hQ⟩
    · cases h3 with
      | a => exact ⟨_, .view es [], H', β2, h1, h2, .nilv, hQ⟩

def Dom.vals (d : Dom) (n : Nat) : List Int := ((List.range n).filter d.has).map fun i => d.from' + (i : Nat)
def valsB (s : List Dom) (x : Int) : List Int := if isB s x then ((s[x.toNat]?).map fun d => d.vals d.width).getD [] else []
theorem vals_succ (d : Dom) (n : Nat) : d.vals (n + 1) = if d.has n then d.vals n ++ [d.from' + n] else d.vals n := by
  unfold Dom.vals
  rw [List.range_succ, List.filter_append, List.map_append]
  cases h : d.has n <;> simp [h]
theorem vals_len (d : Dom) (n : Nat) : (d.vals n).length ≤ n := by
  unfold Dom.vals
  rw [List.length_map]
  exact Nat.le_trans (List.length_filter_le _ _) (by simp)

section
variable {s s' : List Dom} {T T' : List (List Ce)} {E : Heap}
@[simp] theorem U_take6 (a b c : O) : List.take 6 (U s T ++ (a :: b :: c :: E)) = U s T ++ [a, b, c] := rfl
@[simp] theorem U_take6' (a : O) : List.take 6 (U s T ++ [a]) = U s T ++ [a] := rfl
@[simp] theorem U_lim6 : (U s T).map (limO 6) = U s T := rfl
@[simp] theorem UE_5 (a b c : O) : (U s T ++ (a :: b :: c :: E))[5]? = some c := rfl
@[simp] theorem UE_5' (a b c : O) (h) : (U s T ++ (a :: b :: c :: E))[5]'h = c := rfl
@[simp] theorem UE_set5 (a b c o' : O) : (U s T ++ (a :: b :: c :: E)).set 5 o' = U s T ++ (a :: b :: o' :: E) := rfl
end

theorem values_spec {s : List Dom} {T : List (List Ce)} (hs : StOk s T) (x : Int) : DC Tryz.prog dom_Store_Values.id [.ptr 0 1 0 0, V.i x] (U s T) (fun r H => r = vInts (valsB s x) ∧ H = U s T) := by
  refine trimU (S' := fun _ => s) (T' := fun _ => T) (Q := fun r => r = vInts (valsB s x)) ?_
  refine DC.nilv (Q := fun r H' => (∀ i ∈ r.ids, i < 3) ∧ (r = vInts (valsB s x) ∨ r = .a (.slice none 0 0) ∧ valsB s x = []) ∧ ∃ E, H' = U s T ++ E) 1 ?_ ?_
  rotate_left
  · rintro r H' ⟨h1, h2 | ⟨h2, h4⟩, h3⟩
    · exact .inl ⟨h1, h2, h3⟩
    · refine .inr ⟨h2, by simp [V.ids], ?_, h3⟩
      rw [h4]; rfl
  refine DC.of dom_Store_Values.ok (by simp) ?_
  unfold dom_Store_Values.ir
  refine vc_cut (fun st => gt st.sl 0 = .ptr 0 1 0 0 ∧ gt st.sl 1 = V.i x ∧ st.hp = U s T) (by simp) ?_
  rintro ⟨sl, hp, bs⟩ ⟨h0, h1, rfl⟩
  refine vc_cut (fun st => isB s x = true ∧ gt st.sl 0 = .ptr 0 1 0 0 ∧ gt st.sl 1 = V.i x ∧ st.hp = U s T) ?_ ?_
  · simp [h0, h1, V.idsL, V.ids, U_sub hs.t, U_sel]
    refine DC.mono (isS_spec hs x) ?_
    rintro r H ⟨rfl, rfl⟩
    cases h : isB s x
    · have : valsB s x = [] := by simp [valsB, h]
      simp [U_merge hs.t, dom_Store_Values.rs, V.ids, this]
    · simp [U_merge hs.t, dom_Store_Values.rs]
  clear h0 h1
  rintro ⟨sl, hp, bs⟩ ⟨h, h0, h1, rfl⟩
  obtain ⟨i, d, rfl, hi, hd, hok, hr⟩ := hs.row h
  have hds : s[i] = d := by rw [List.getElem?_eq_getElem hi] at hd; injection hd
  have f1 := hok.f
  have f2 := hok.w
  have hB : valsB s i = d.vals d.width := by simp [valsB, h, hd]
  rw [hB]
  refine vc_cut (fun st => gt st.sl 5 = .a (.slice none 0 0) ∧ gt st.sl 0 = .ptr 0 1 0 0 ∧ gt st.sl 1 = V.i i ∧ st.hp = U s T) (by simp [h0, h1]) ?_
  clear h0 h1
  rintro ⟨sl, hp, bs⟩ ⟨h5, h0, h1, rfl⟩
  refine vc_cut (fun st => gt st.sl 5 = .a (.slice none 0 0) ∧ gt st.sl 6 = .ptr 3 1 0 0 ∧ st.hp = U s T ++ [.mem false [] [d.row]]) ?_ ?_
  · simp [h0, h1, h5, hi, hds, U]
  clear h0 h1 h5
  rintro ⟨sl, hp, bs⟩ ⟨h5, h6, rfl⟩
  refine vc_cut (fun st => (gt st.sl 5 = .a (.slice none 0 0) ∧ st.hp = U s T ++ [.mem false [] [d.row]] ∧ d.vals d.width = []) ∨ (gt st.sl 5 = .own 5 1 0 (d.vals d.width).length (d.vals d.width).length ∧ st.hp = U s T ++ [.mem false [] [d.row], .res, .mem false [] ((d.vals d.width).map fun n => [V.i n])])) ?_ ?_
  · simp [h5, h6]
    refine WI.mono (Q := fun e st => e = .exit 0 ∧ ((gt st.sl 5 = .a (.slice none 0 0) ∧ st.hp = U s T ++ [.mem false [] [d.row]] ∧ d.vals d.width = []) ∨ (gt st.sl 5 = .own 5 1 0 (d.vals d.width).length (d.vals d.width).length ∧ st.hp = U s T ++ [.mem false [] [d.row], .res, .mem false [] ((d.vals d.width).map fun n => [V.i n])])))
      (WI.loop 6 (by simp) (fun st => ∃ j, j ≤ d.width ∧ gt st.sl 6 = .ptr 3 1 0 0 ∧ gt st.sl 20 = V.i d.width ∧ gt st.sl 21 = V.i j ∧ ((gt st.sl 5 = .a (.slice none 0 0) ∧ st.hp = U s T ++ [.mem false [] [d.row]] ∧ d.vals j = []) ∨ (gt st.sl 5 = .own 5 1 0 (d.vals j).length (d.vals j).length ∧ st.hp = U s T ++ [.mem false [] [d.row], .res, .mem false [] ((d.vals j).map fun n => [V.i n])]))) (fun st => (d.width - (gt st.sl 21).num).toNat) ?_ ?_) ?_
    · exact ⟨0, by simp [h5, h6, Dom.vals]⟩
    · clear h5 h6
      rintro ⟨sl, hp, bs⟩ ⟨j, hj, h6, h20, h21, h5⟩
      by_cases hjl : j < d.width
      · have hw : IntKind.i64.wrap ((j : Int) + 1) = ((j + 1 : Nat) : Int) := by rw [wrap64] <;> omega
        have hw2 : IntKind.i64.wrap (d.from' + j) = d.from' + j := by rw [wrap64] <;> omega
        have hh := has_spec (rows := [d.row]) (d := d) (x := 0) (k := j) rfl hok (by omega)
        have hv := vals_succ d j
        have hvl := vals_len d j
        rcases h5 with ⟨h5, rfl, hnil⟩ | ⟨h5, rfl⟩
        · simp [dom_Store_Values.b0, h5, h6, h20, h21, hjl, hw, hw2, UE1_clos, UE1_sel, UE1_sub, V.idsL, V.ids] at hh ⊢
          refine DC.mono hh ?_
          rintro r H ⟨rfl, rfl⟩
          cases hg : d.has j
          · simp [UE1_merge]
            exact ⟨⟨j + 1, by omega, by omega, by rw [hv, hg]; exact hnil⟩, by omega⟩
          · simp [UE1_merge]
            exact ⟨⟨j + 1, by omega, by omega, by simp [hv, hg, hnil, hw2]⟩, by omega⟩
        · simp [dom_Store_Values.b0, h5, h6, h20, h21, hjl, hw, hw2, UE1_clos, UE1_sel, UE1_sub, V.idsL, V.ids] at hh ⊢
          refine DC.mono hh ?_
          rintro r H ⟨rfl, rfl⟩
          cases hg : d.has j
          · simp [UE1_merge]
            exact ⟨⟨j + 1, by omega, by omega, by simp [hv, hg]⟩, by omega⟩
          · simp [UE1_merge]
            exact ⟨by omega, ⟨j + 1, by omega, by omega, by simp [hv, hg, hw2]⟩, by omega⟩
      · obtain rfl : j = d.width := by omega
        simp [dom_Store_Values.b0, h6, h20, h21]
        exact h5
    · rintro e ⟨sl, hp, bs⟩ ⟨rfl, h5⟩
      simpa using h5
  clear h5 h6
  rintro ⟨sl, hp, bs⟩ (⟨h5, rfl, hnil⟩ | ⟨h5, rfl⟩)
  · simp [h5, hnil, dom_Store_Values.rs, V.ids, V.nilSl, vInts]
  · simp [h5, dom_Store_Values.rs, V.ids, V.nilSl, vInts]
    exact List.take_of_length_le (by simp)

theorem valsB_len {s : List Dom} {T : List (List Ce)} (hs : StOk s T) (x : Int) : (valsB s x).length ≤ 64 := by
  unfold valsB
  split
  · cases h : s[x.toNat]? with
    | none => simp
    | some d => exact Nat.le_trans (vals_len d d.width) (hs.d d (List.mem_of_getElem? h)).w
  · simp

theorem lo_spec {s : List Dom} {T : List (List Ce)} (hs : StOk s T) (x : Int) (hne : isB s x = true → valsB s x ≠ []) : DC Tryz.prog dom_Store_Lo.id [.ptr 0 1 0 0, V.i x] (U s T) (fun r H => r = V.i (if isB s x then (valsB s x).headD 0 else 0) ∧ H = U s T) := by
  refine DC.of dom_Store_Lo.ok (by simp) ?_
  unfold dom_Store_Lo.ir
  refine vc_cut (fun st => gt st.sl 0 = .ptr 0 1 0 0 ∧ gt st.sl 1 = V.i x ∧ st.hp = U s T) (by simp) ?_
  rintro ⟨sl, hp, bs⟩ ⟨h0, h1, rfl⟩
  refine vc_cut (fun st => isB s x = true ∧ gt st.sl 0 = .ptr 0 1 0 0 ∧ gt st.sl 1 = V.i x ∧ st.hp = U s T) ?_ ?_
  · simp [h0, h1, V.idsL, V.ids, U_sub hs.t, U_sel]
    refine DC.mono (isS_spec hs x) ?_
    rintro r H ⟨rfl, rfl⟩
    cases h : isB s x <;> simp [U_merge hs.t, dom_Store_Lo.rs]
  clear h0 h1
  rintro ⟨sl, hp, bs⟩ ⟨h, h0, h1, rfl⟩
  have hn := hne h
  simp [h0, h1, h, V.idsL, V.ids, U_sub hs.t, U_sel]
  refine DC.mono (values_spec hs x) ?_
  rintro r H ⟨rfl, rfl⟩
  obtain ⟨a, l, hl⟩ := List.exists_cons_of_ne_nil hn
  simp [U_merge hs.t, dom_Store_Lo.rs, hl, vInts]
theorem hi_spec {s : List Dom} {T : List (List Ce)} (hs : StOk s T) (x : Int) (hne : isB s x = true → valsB s x ≠ []) : DC Tryz.prog dom_Store_Hi.id [.ptr 0 1 0 0, V.i x] (U s T) (fun r H => r = V.i (if isB s x then (valsB s x).getLastD 0 else 0) ∧ H = U s T) := by
  refine DC.of dom_Store_Hi.ok (by simp) ?_
  unfold dom_Store_Hi.ir
  refine vc_cut (fun st => gt st.sl 0 = .ptr 0 1 0 0 ∧ gt st.sl 1 = V.i x ∧ st.hp = U s T) (by simp) ?_
  rintro ⟨sl, hp, bs⟩ ⟨h0, h1, rfl⟩
  refine vc_cut (fun st => isB s x = true ∧ gt st.sl 0 = .ptr 0 1 0 0 ∧ gt st.sl 1 = V.i x ∧ st.hp = U s T) ?_ ?_
  · simp [h0, h1, V.idsL, V.ids, U_sub hs.t, U_sel]
    refine DC.mono (isS_spec hs x) ?_
    rintro r H ⟨rfl, rfl⟩
    cases h : isB s x <;> simp [U_merge hs.t, dom_Store_Hi.rs]
  clear h0 h1
  rintro ⟨sl, hp, bs⟩ ⟨h, h0, h1, rfl⟩
  have hn := hne h
  simp [h0, h1, h, V.idsL, V.ids, U_sub hs.t, U_sel]
  refine DC.mono (values_spec hs x) ?_
  rintro r H ⟨rfl, rfl⟩
  have hlen := valsB_len hs x
  have hpos : 0 < (valsB s x).length := List.length_pos_iff.2 hn
  have hw : IntKind.i64.wrap (((valsB s x).length : Int) - 1) = (((valsB s x).length - 1 : Nat) : Int) := by rw [wrap64] <;> omega
  have hlt : (valsB s x).length - 1 < (valsB s x).length := by omega
  simp [U_merge hs.t, dom_Store_Hi.rs, vInts, hw, hlt, List.getLast?_eq_getElem?]
end Go.Abs.G


namespace Go.Abs.G
open Go.Proofs
set_option linter.unusedVariables false
set_option linter.unusedSimpArgs false
attribute [local simp] I.vc

section
variable {s s' : List Dom} {T T' : List (List Ce)} {E : Heap}
@[simp] theorem U_take5b (a b : O) : List.take 5 (U s T ++ (a :: b :: E)) = U s T ++ [a, b] := rfl
@[simp] theorem U_take5c : List.take 5 (U s T) = U s T := rfl
end

end Go.Abs.G


namespace Go.Abs
set_option linter.unusedVariables false
section
variable {w : World} {β : Nat → Hd} {F : Nat → Prop} {H : Heap}

/-- An object of trees told otherwise, in the same blocks. -/
theorem adv_tree {id : Nat} {refs refs' : List Nat} {rows rows' : List (List Ce)} (hk : HOK w.heap H β F) (hid : H[id]? = some (.tree refs rows)) (hl : rows'.length = rows.length)
    (h : ∀ c' : Cx, c'.hp = w.heap → ((cx w.heap H β F).only refs).le (c'.only refs) → ∀ S ad cap es, TR c' refs S (.slice (some ad) rows.length cap) (.n es rows) → TR c' refs' S (.slice (some ad) rows.length cap) (.n es rows')) :
    ∃ β', Adv F w H β w (H.set id (.tree refs' rows')) β' := by
  refine ⟨_, turn_at (S := (β id).sub) hk hid (by simp) (fun b hb => ?_) (fun g' hg => ?_) fun hle => ?_⟩
  · unfold ownsB at hb ⊢
    rw [get_set hid, upd_same] at hb
    rw [hid]
    exact hb
  · unfold hdOf at hg ⊢
    rw [get_set hid, upd_same] at hg
    rw [hid]
    simp only [hl] at hg
    exact hg
  · rcases hk.ro id _ hid with hr | ⟨q1, q2, q3, q4, q5⟩
    · refine .inl ⟨hr.1, ?_, hr.2.2⟩
      have := hr.2.1
      exact List.length_eq_zero_iff.1 (by rw [hl, this]; rfl)
    · refine .inr ⟨q1, q2, q3, ?_, q5⟩
      rw [hl]
      exact h _ rfl (hle.only _) _ _ _ _ (q4.mono (hle.only _) fun _ _ => rfl)

theorem adv_refsT {id : Nat} {refs refs' : List Nat} {rows : List (List Ce)} (hk : HOK w.heap H β F) (hid : H[id]? = some (.tree refs rows)) (hs : ∀ k ∈ Ce.idsR rows, k ∈ refs') : ∃ β', Adv F w H β w (H.set id (.tree refs' rows)) β' :=
  adv_tree hk hid rfl fun c' _ _ S ad cap es h => h.refs fun k hk => hs k (by simpa only [Ce.ids] using hk)

theorem adv_nilcell {id i j es : Nat} {refs : List Nat} {rows : List (List Ce)} {row : List Ce} (hk : HOK w.heap H β F) (hid : H[id]? = some (.tree refs rows)) (hi : rows[i]? = some row) (hj : row[j]? = some (.v (.a (.slice none 0 0)))) :
    ∃ β', Adv F w H β w (H.set id (.tree refs (rows.set i (row.set j (.n es []))))) β' := by
  refine adv_tree hk hid List.length_set fun c' _ _ S ad cap es' h => ?_
  obtain ⟨u, Sx, hx, hxs, _, hset⟩ := h.cell hi hj
  have hu : u = .slice none 0 0 := by
    have := hx.val
    cases this with
    | a => rfl
  subst hu
  have hn := hx.vsub
  exact (hset c' refs rfl (fun _ _ _ h => h) (.n es []) noSub .nil fun k e => e.elim).congr fun k => ⟨fun e => e.elim (fun e => e.1) fun e => e.elim, fun e => .inl ⟨e, hn k⟩⟩

theorem lo_of_ptr {c : Cx} {v : Value} {id n : Nat} {h : Hd} (hv : RV c v (.ptr id n 0 0)) (hd : c.hd id = some h) (ht : h.tot = n) : h.lo = 0 := by
  cases hv with
  | ptr hl hh => exact Nat.le_zero.1 ((hh h hd).2 ht).1

abbrev nilS : V := .a (.slice none 0 0)

/-- A struct of two nil slices, as one that owns two slices. -/
theorem adv_nil2 {id e1 e2 : Nat} (hk : HOK w.heap H β F) (hid : H[id]? = some (.mem false [] [[nilS, nilS]])) (hlo : (β id).lo = 0) :
    ∃ β', Adv F w H β w (H.set id (.mem false [H.length, H.length + 1] [[.own H.length e1 0 0 0, .own (H.length + 1) e2 0 0 0]]) ++ [.mem false [] [], .tree [] []]) β' := by
  have hlt := lt_of_get hid
  obtain ⟨β1, a1⟩ := adv_toTree hk hid hlo
  have g1 := get_set (y := O.tree [] (flatC [[nilS, nilS]])) hid
  obtain ⟨β2, a2⟩ := adv_nilcell (i := 0) (j := 0) (es := e1) a1.hok g1 rfl rfl
  rw [List.set_set] at a2
  have g2 := get_set (y := O.tree [] [[.n e1 [], .v nilS]]) hid
  obtain ⟨β3, a3⟩ := adv_nilcell (i := 0) (j := 1) (es := e2) a2.hok g2 rfl rfl
  rw [List.set_set] at a3
  have g3 := get_set (y := O.tree [] [[.n e1 [], .n e2 []]]) hid
  obtain ⟨β4, a4⟩ := adv_unpack (i := 0) (j := 0) a3.hok g3 rfl rfl
  rw [List.set_set, List.length_set] at a4
  replace a4 : Adv F w (H.set id (.tree [] [[.n e1 [], .n e2 []]])) β3 w (H.set id (.tree [H.length] [[.v (.own H.length e1 0 0 0), .n e2 []]]) ++ [O.tree [] []]) β4 := a4
  have g4 : (H.set id (.tree [H.length] [[.v (.own H.length e1 0 0 0), .n e2 []]]) ++ [O.tree [] []])[id]? = some (.tree [H.length] [[.v (.own H.length e1 0 0 0), .n e2 []]]) := by
    rw [List.getElem?_append_left (by simpa using hlt)]; exact get_set hid
  obtain ⟨β5, a5⟩ := adv_unpack (i := 0) (j := 1) a4.hok g4 rfl rfl
  have e5 : (H.set id (.tree [H.length] [[.v (.own H.length e1 0 0 0), .n e2 []]]) ++ [O.tree [] []]).set id (.tree [H.length + 1, H.length] [[.v (.own H.length e1 0 0 0), .v (.own (H.length + 1) e2 0 0 0)]]) ++ [.tree [H.length] []] = H.set id (.tree [H.length + 1, H.length] [[.v (.own H.length e1 0 0 0), .v (.own (H.length + 1) e2 0 0 0)]]) ++ [.tree [] [], .tree [H.length] []] := by
    rw [List.set_append, if_pos (by simpa using hlt), List.set_set, List.append_assoc]; rfl
  have l5 : (H.set id (.tree [H.length] [[.v (.own H.length e1 0 0 0), .n e2 []]]) ++ [O.tree [] []]).length = H.length + 1 := by simp
  rw [l5] at a5
  have a5' : Adv F w (H.set id (.tree [H.length] [[.v (.own H.length e1 0 0 0), .n e2 []]]) ++ [O.tree [] []]) β4 w ((H.set id (.tree [H.length] [[.v (.own H.length e1 0 0 0), .n e2 []]]) ++ [O.tree [] []]).set id (.tree [H.length + 1, H.length] [[.v (.own H.length e1 0 0 0), .v (.own (H.length + 1) e2 0 0 0)]]) ++ [.tree [H.length] []]) β5 := a5
  rw [e5] at a5'
  generalize hP : O.tree [H.length + 1, H.length] [[.v (.own H.length e1 0 0 0), .v (.own (H.length + 1) e2 0 0 0)]] = P at a5'
  have g5 : (H.set id P ++ [O.tree [] [], O.tree [H.length] []])[H.length + 1]? = some (.tree [H.length] []) := by
    rw [List.getElem?_append_right (by simp)]; simp
  obtain ⟨β6, a6⟩ := adv_refsT (refs' := []) a5'.hok g5 (by simp [Ce.idsR])
  have e6 : (H.set id P ++ [O.tree [] [], O.tree [H.length] []]).set (H.length + 1) (O.tree [] []) = H.set id P ++ [O.tree [] [], O.tree [] []] := by
    rw [List.set_append, if_neg (by simp)]; simp
  rw [e6] at a6
  have g6 : (H.set id P ++ [O.tree [] [], .tree [] []])[H.length]? = some (.tree [] (flatC [])) := by
    rw [List.getElem?_append_right (by simp)]; simp [flatC]
  obtain ⟨β7, a7⟩ := adv_toMem a6.hok g6
  have e7 : (H.set id P ++ [O.tree [] [], .tree [] []]).set H.length (.mem false [] []) = H.set id P ++ [.mem false [] [], .tree [] []] := by
    rw [List.set_append, if_neg (by simp)]; simp
  rw [e7] at a7
  subst hP
  have g7 : (H.set id (.tree [H.length + 1, H.length] [[.v (.own H.length e1 0 0 0), .v (.own (H.length + 1) e2 0 0 0)]]) ++ [O.mem false [] [], .tree [] []])[id]? = some (.tree [H.length + 1, H.length] [[.v (.own H.length e1 0 0 0), .v (.own (H.length + 1) e2 0 0 0)]]) := by
    rw [List.getElem?_append_left (by simpa using hlt)]; exact get_set hid
  obtain ⟨β8, a8⟩ := adv_refsT (refs' := [H.length, H.length + 1]) a7.hok g7 (by simp [Ce.idsR, Ce.idsL, Ce.ids, V.ids])
  have e8 : ∀ P P' : O, (H.set id P ++ [O.mem false [] [], .tree [] []]).set id P' = H.set id P' ++ [O.mem false [] [], .tree [] []] := fun P P' => by
    rw [List.set_append, if_pos (by simpa using hlt), List.set_set]
  rw [e8] at a8
  have g8 : (H.set id (.tree [H.length, H.length + 1] [[.v (.own H.length e1 0 0 0), .v (.own (H.length + 1) e2 0 0 0)]]) ++ [O.mem false [] [], .tree [] []])[id]? = some (.tree [H.length, H.length + 1] (flatC [[.own H.length e1 0 0 0, .own (H.length + 1) e2 0 0 0]])) := by
    rw [List.getElem?_append_left (by simpa using hlt)]; exact get_set hid
  obtain ⟨β9, a9⟩ := adv_toMem a8.hok g8
  rw [e8] at a9
  exact ⟨β9, a1.trans (a2.trans (a3.trans (a4.trans (a5'.trans (a6.trans (a7.trans (a8.trans a9)))))))⟩
end
end Go.Abs
namespace Go.Abs
theorem Weak.nil2 {st : St} {id e1 e2 t : Nat} (hid : st.hp[id]? = some (.mem false [] [[nilS, nilS]])) (ht : gt st.sl t = .ptr id 1 0 0) :
    Weak st { st with hp := st.hp.set id (.mem false [st.hp.length, st.hp.length + 1] [[.own st.hp.length e1 0 0 0, .own (st.hp.length + 1) e2 0 0 0]]) ++ [.mem false [] [], .tree [] []] } := by
  refine ⟨rfl, fun k hk => ?_, by simp, fun w β F N a hR => ?_⟩
  · show (st.hp.set id _ ++ _)[k]? = _
    have hne : k ≠ id := by rintro rfl; rw [hid] at hk; simp at hk
    rw [List.getElem?_append_left (by rw [List.length_set]; exact lt_of_get hk), getElem?_set_ne' hne]; exact hk
  · have hs := hR.sl t
    rw [ht] at hs
    have hd : (cx w.heap st.hp β F).hd id = some ((β id).wt 1) := by show hdOf st.hp β id = _; unfold hdOf; rw [hid]; rfl
    have hlo : ((β id).wt 1).lo = 0 := lo_of_ptr (h := (β id).wt 1) hs hd rfl
    obtain ⟨β', adv⟩ := adv_nil2 (e1 := e1) (e2 := e2) hR.hok hid hlo
    exact ⟨β', adv, hR.adv adv⟩
end Go.Abs

namespace Go.Abs
set_option linter.unusedVariables false

/-- A child: its number, its cells' size, what it may name, its rows. -/
structure Kid where
  id : Nat
  es : Nat
  refs : List Nat
  L : List (List Ce)

def Kid.own (c : Kid) : List Ce := [.v (.own c.id c.es 0 c.L.length c.L.length)]
def Kid.nest (c : Kid) : List Ce := [.n c.es c.L]

theorem adv_packAll {w : World} {F : Nat → Prop} {id : Nat} : ∀ (todo done : List Kid) (H : Heap) (β : Nat → Hd) (refs : List Nat), HOK w.heap H β F →
    H[id]? = some (.tree refs (done.map Kid.nest ++ todo.map Kid.own)) → (∀ c ∈ todo, H[c.id]? = some (.tree c.refs c.L) ∧ c.id ≠ id) → (todo.map Kid.id).Nodup →
    ∃ β' H' refs', Adv F w H β w H' β' ∧ H'[id]? = some (.tree refs' ((done ++ todo).map Kid.nest)) ∧ H'.length = H.length ∧ ∀ j, j ≠ id → j ∉ todo.map Kid.id → H'[j]? = H[j]?
  | [], done, H, β, refs, hk, hid, _, _ => ⟨β, H, refs, ⟨hk, .refl _, .refl _ _⟩, by simpa using hid, rfl, fun _ _ _ => rfl⟩
  | c :: rest, done, H, β, refs, hk, hid, hc, hnd => by
    obtain ⟨h1, h2⟩ := hc c (by simp)
    have hi : (done.map Kid.nest ++ (c :: rest).map Kid.own)[done.length]? = some c.own := by
      rw [List.getElem?_append_right (by simp)]; simp
    obtain ⟨β1, a1⟩ := adv_pack (i := done.length) (j := 0) hk hid h1 (fun e => h2 e.symm) hi rfl rfl
    have e1 : (done.map Kid.nest ++ (c :: rest).map Kid.own).set done.length (c.own.set 0 (.n c.es c.L)) = (done ++ [c]).map Kid.nest ++ rest.map Kid.own := by
      rw [List.set_append, if_neg (by simp)]; simp [Kid.own, Kid.nest]
    rw [e1] at a1
    have hid0 : (H.set c.id O.dead)[id]? = some (.tree refs (done.map Kid.nest ++ (c :: rest).map Kid.own)) := by rw [getElem?_set_ne' (Ne.symm h2)]; exact hid
    have g1 : ((H.set c.id O.dead).set id (.tree (refs ++ c.refs) ((done ++ [c]).map Kid.nest ++ rest.map Kid.own)))[id]? = some (.tree (refs ++ c.refs) ((done ++ [c]).map Kid.nest ++ rest.map Kid.own)) := get_set hid0
    have hnd' : c.id ∉ rest.map Kid.id ∧ (rest.map Kid.id).Nodup := by simpa using List.nodup_cons.1 hnd
    obtain ⟨β2, H2, refs2, a2, b1, b2, b3⟩ := adv_packAll rest (done ++ [c]) _ β1 _ a1.hok g1 (fun d hd => by
      obtain ⟨q1, q2⟩ := hc d (by simp [hd])
      refine ⟨?_, q2⟩
      rw [getElem?_set_ne' q2, getElem?_set_ne' fun e => hnd'.1 (by rw [← e]; exact List.mem_map_of_mem hd)]
      exact q1) hnd'.2
    refine ⟨β2, H2, refs2, a1.trans a2, by simpa using b1, by simpa using b2, fun j h3 h4 => ?_⟩
    rw [List.map_cons, List.mem_cons, not_or] at h4
    rw [b3 j h3 h4.2, getElem?_set_ne' h3, getElem?_set_ne' h4.1]

end Go.Abs

namespace Go.Abs
set_option linter.unusedVariables false

def kids (es : Nat) : Nat → List (List (List Ce)) → List Kid
  | _, [] => []
  | n, L :: l => ⟨n, es, [], L⟩ :: kids es (n + 1) l

theorem kids_ids (es : Nat) : ∀ (n : Nat) (l : List (List (List Ce))), (kids es n l).map Kid.id = List.range' n l.length
  | _, [] => rfl
  | n, L :: l => by simp [kids, kids_ids es (n + 1) l, List.range'_succ]

theorem own_idsR : ∀ (l : List Kid), Ce.idsR (l.map Kid.own) = l.map Kid.id
  | [] => rfl
  | c :: l => by simp [Ce.idsR, Ce.idsL, Kid.own, Ce.ids, V.ids, own_idsR l]

theorem adv_kids {w : World} {F : Nat → Prop} {id : Nat} {es : Nat} : ∀ (todo : List (List (List Ce))) (done : List Kid) (H : Heap) (β : Nat → Hd) (refs : List Nat), HOK w.heap H β F → (∀ L ∈ todo, Ce.idsR L = []) →
    H[id]? = some (.tree refs (done.map Kid.own ++ todo.map fun L => [.n es L])) →
    ∃ β' refs', Adv F w H β w (H.set id (.tree refs' ((done ++ kids es H.length todo).map Kid.own)) ++ todo.map fun L => .tree [] L) β'
  | [], done, H, β, refs, hk, _, hid => ⟨β, refs, by
      have : H.set id (.tree refs ((done ++ kids es H.length []).map Kid.own)) ++ ([] : List (List (List Ce))).map (fun L => O.tree [] L) = H := by
        obtain ⟨h1, h2⟩ := List.getElem?_eq_some_iff.1 hid
        simp only [List.append_nil, List.map_nil, kids] at h2 ⊢
        rw [← h2]; exact List.set_getElem_self h1
      rw [this]; exact ⟨hk, .refl _, .refl _ _⟩⟩
  | L :: rest, done, H, β, refs, hk, hcl, hid => by
    have hi : (done.map Kid.own ++ (L :: rest).map fun L => [Ce.n es L])[done.length]? = some [.n es L] := by
      rw [List.getElem?_append_right (by simp)]; simp
    obtain ⟨β1, a1⟩ := adv_unpack (i := done.length) (j := 0) hk hid hi rfl
    let c : Kid := ⟨H.length, es, [], L⟩
    have e1 : (done.map Kid.own ++ (L :: rest).map fun L => [Ce.n es L]).set done.length (([Ce.n es L] : List Ce).set 0 (.v (.own H.length es 0 L.length L.length))) = (done ++ [c]).map Kid.own ++ rest.map fun L => [Ce.n es L] := by
      rw [List.set_append, if_neg (by simp)]; simp [Kid.own, c]
    rw [e1] at a1
    have hlt := lt_of_get hid
    generalize hP : O.tree (H.length :: refs) ((done ++ [c]).map Kid.own ++ rest.map fun L => [Ce.n es L]) = P at a1
    have g0 : (H.set id P ++ [O.tree refs L])[H.length]? = some (.tree refs L) := by
      rw [List.getElem?_append_right (by simp)]; simp
    obtain ⟨β2, a2⟩ := adv_refsT (refs' := []) a1.hok g0 (by rw [hcl L (by simp)]; simp)
    have e2 : (H.set id P ++ [O.tree refs L]).set H.length (.tree [] L) = H.set id P ++ [O.tree [] L] := by
      rw [List.set_append, if_neg (by simp)]; simp
    rw [e2] at a2
    subst hP
    have g1 : (H.set id (.tree (H.length :: refs) ((done ++ [c]).map Kid.own ++ rest.map fun L => [Ce.n es L])) ++ [O.tree [] L])[id]? = some (.tree (H.length :: refs) ((done ++ [c]).map Kid.own ++ rest.map fun L => [Ce.n es L])) := by
      rw [List.getElem?_append_left (by simpa using hlt)]; exact get_set hid
    obtain ⟨β3, refs3, a3⟩ := adv_kids rest (done ++ [c]) _ β2 _ a2.hok (fun L' h => hcl L' (by simp [h])) g1
    refine ⟨β3, refs3, ?_⟩
    have := a1.trans (a2.trans a3)
    rw [List.set_append, if_pos (by simpa using hlt), List.set_set, List.append_assoc] at this
    simpa [c, kids] using this

/-- A tree of closed slices, taken apart: the slices become objects behind the others. -/
theorem adv_open {w : World} {F : Nat → Prop} {β : Nat → Hd} {H : Heap} {id es : Nat} {refs : List Nat} {todo : List (List (List Ce))} (hk : HOK w.heap H β F) (hcl : ∀ L ∈ todo, Ce.idsR L = [])
    (hid : H[id]? = some (.tree refs (todo.map fun L => [.n es L]))) :
    ∃ β', Adv F w H β w (H.set id (.mem false (List.range' H.length todo.length) ((kids es H.length todo).map fun c => [.own c.id c.es 0 c.L.length c.L.length])) ++ todo.map fun L => .tree [] L) β' := by
  obtain ⟨β1, refs1, a1⟩ := adv_kids todo [] H β refs hk hcl (by simpa using hid)
  have hlt := lt_of_get hid
  have g1 : (H.set id (.tree refs1 (([] ++ kids es H.length todo).map Kid.own)) ++ todo.map fun L => O.tree [] L)[id]? = some (.tree refs1 (([] ++ kids es H.length todo).map Kid.own)) := by
    rw [List.getElem?_append_left (by simpa using hlt)]; exact get_set hid
  obtain ⟨β2, a2⟩ := adv_refsT (refs' := List.range' H.length todo.length) a1.hok g1 (by rw [List.nil_append, own_idsR, kids_ids]; exact fun k h => h)
  rw [List.set_append, if_pos (by simpa using hlt), List.set_set] at a2
  have ef : ([] ++ kids es H.length todo).map Kid.own = flatC ((kids es H.length todo).map fun c => [.own c.id c.es 0 c.L.length c.L.length]) := by
    simp [flatC, Kid.own, Function.comp_def]
  rw [ef] at a1 a2
  have g2 : (H.set id (.tree (List.range' H.length todo.length) (flatC ((kids es H.length todo).map fun c => [.own c.id c.es 0 c.L.length c.L.length]))) ++ todo.map fun L => O.tree [] L)[id]? = some (.tree (List.range' H.length todo.length) (flatC ((kids es H.length todo).map fun c => [.own c.id c.es 0 c.L.length c.L.length]))) := by
    rw [List.getElem?_append_left (by simpa using hlt)]; exact get_set hid
  obtain ⟨β3, a3⟩ := adv_toMem a2.hok g2
  rw [List.set_append, if_pos (by simpa using hlt), List.set_set] at a3
  exact ⟨β3, a1.trans (a2.trans a3)⟩

/-- A slice's object has its front, when a cell holds the whole of it. -/
theorem lo_of_cell {w : World} {F : Nat → Prop} {β : Nat → Hd} {H : Heap} {p c i j es k : Nat} {refs : List Nat} {rows : List (List V)} {row : List V} (hk : HOK w.heap H β F) (hp : H[p]? = some (.mem false refs rows)) (hlo : (β p).lo = 0)
    (hi : rows[i]? = some row) (hj : row[j]? = some (.own c es 0 k k)) (hc : hdOf H β c = some ((β c).wt k)) : (β c).lo = 0 := by
  rcases hk.ro p _ hp with hr | ⟨q1, q2, q3, q4, q5, cs, E, fr, q6, q7, q8, q9⟩
  · rw [hr.2.1] at hi; simp at hi
  · obtain ⟨v, _, _, hv⟩ := q9 i row hi (by rw [hlo]; exact Nat.zero_le _) j _ hj
    cases hv with
    | own hl hh => exact Nat.le_zero.1 ((hh _ hc).2 rfl).1
end Go.Abs

namespace Go.Abs.G
open Go.Proofs
set_option linter.unusedVariables false
set_option linter.unusedSimpArgs false
attribute [local simp] I.vc

def Z (s : List Dom) (rf : List Nat) (R : List (List V)) : Heap := [.mem false [1, 2] [[.own 1 4 0 s.length s.length, .own 2 1 0 R.length R.length]], .mem false [] (s.map Dom.row), .mem false rf R]
section
variable {s : List Dom} {rf : List Nat} {R : List (List V)} {Es E : Heap} {n : Nat}
@[simp] theorem Z_s2 (o : O) : ((Z s rf R ++ E).set 2 o)[2]? = some o := rfl
@[simp] theorem Z_0 : (Z s rf R ++ E)[0]? = some (.mem false [1, 2] [[.own 1 4 0 s.length s.length, .own 2 1 0 R.length R.length]]) := rfl
@[simp] theorem Z_1 : (Z s rf R ++ E)[1]? = some (.mem false [] (s.map Dom.row)) := rfl
@[simp] theorem Z_2 : (Z s rf R ++ E)[2]? = some (.mem false rf R) := rfl
@[simp] theorem Z_0' (h) : (Z s rf R ++ E)[0]'h = .mem false [1, 2] [[.own 1 4 0 s.length s.length, .own 2 1 0 R.length R.length]] := rfl
@[simp] theorem Z_1' (h) : (Z s rf R ++ E)[1]'h = .mem false [] (s.map Dom.row) := rfl
@[simp] theorem Z_2' (h) : (Z s rf R ++ E)[2]'h = .mem false rf R := rfl
@[simp] theorem Z_len : (Z s rf R).length = 3 := rfl
end

end Go.Abs.G


namespace Go.Abs
theorem DC.post' {P : Program} {f : FuncId} {xs : List V} {H : Heap} {Q Q' : V → Heap → Prop} (h : DC P f xs H Q)
    (hq : ∀ x H1, Q x H1 → ∀ (w : World) (β : Nat → Hd) (F : Nat → Prop) (vs : Array Value), HOK w.heap H1 β F → RVs (cx w.heap H1 β F) vs (x :: xs) → ∃ β' H2, Adv F w H1 β w H2 β' ∧ Q' x H2) : DC P f xs H Q' := fun w β F vs hk hr =>
  (h w β F vs hk hr).mono fun e w' ⟨r, x, H', β2, h1, h2, h3, h4⟩ => by
    obtain ⟨β3, H2, a, hQ⟩ := hq x H' h4 w' β2 F _ h2.hok (RVs.cons' h3 (hr.mono h2.le))
    exact ⟨r, x, H2, β3, h1, h2.trans a, h3.mono a.le, hQ⟩
end Go.Abs
namespace Go.Abs.G
open Go.Proofs
set_option linter.unusedVariables false
set_option linter.unusedSimpArgs false
attribute [local simp] I.vc

def domCe (d : Dom) : List Ce := d.row.map .v
def mT (ms : List (List Dom)) : List (List Ce) := ms.map fun L => [.n 4 (L.map domCe)]
theorem domCe_flat (L : List Dom) : L.map domCe = flatC (L.map Dom.row) := by simp [domCe, flatC, Function.comp_def]
theorem domCe_ids : ∀ L : List Dom, Ce.idsR (L.map domCe) = []
  | [] => rfl
  | d :: L => by
    have : Ce.idsL (domCe d) = [] := rfl
    simp [Ce.idsR, this, domCe_ids L]
theorem mT_ids : ∀ ms : List (List Dom), Ce.idsR (mT ms) = []
  | [] => rfl
  | L :: ms => by
    have h := mT_ids ms
    unfold mT at h
    simp [mT, Ce.idsR, Ce.idsL, Ce.ids, domCe_ids, h]
def kidsOf (ms : List (List Dom)) : List Kid := kids 4 3 (ms.map fun L => L.map domCe)
def rowsOf' (ms : List (List Dom)) : List (List V) := (kidsOf ms).map fun c => [.own c.id c.es 0 c.L.length c.L.length]
def objsOf (ms : List (List Dom)) : Heap := ms.map fun L => .tree [] (L.map domCe)
theorem kids_len (es : Nat) : ∀ (n : Nat) (l : List (List (List Ce))), (kids es n l).length = l.length
  | _, [] => rfl
  | n, L :: l => by simp [kids, kids_len es (n + 1) l]
theorem rowsOf_len (ms : List (List Dom)) : (rowsOf' ms).length = ms.length := by simp [rowsOf', kidsOf, kids_len]

theorem step_open {xs : List V} {s : List Dom} {ms : List (List Dom)} : Step xs (U s (mT ms)) (Z s (List.range' 3 ms.length) (rowsOf' ms) ++ objsOf ms) := fun w β F vs hk hr => by
  obtain ⟨β', a⟩ := adv_open (id := 2) (es := 4) (refs := []) (todo := ms.map fun L => L.map domCe) hk (by simp [domCe_ids]) (by simp [U, mT])
  refine ⟨β', ?_⟩
  have e : (U s (mT ms)).set 2 (.mem false (List.range' (U s (mT ms)).length (ms.map fun L => L.map domCe).length) ((kids 4 (U s (mT ms)).length (ms.map fun L => L.map domCe)).map fun c => [.own c.id c.es 0 c.L.length c.L.length])) ++ (ms.map fun L => L.map domCe).map (fun L => O.tree [] L) = Z s (List.range' 3 ms.length) (rowsOf' ms) ++ objsOf ms := by
    simp [U, Z, rowsOf', kidsOf, objsOf, mT, kids_len, Function.comp_def]
  rw [e] at a
  exact a
end Go.Abs.G


namespace Go.Abs.G
open Go.Proofs
set_option linter.unusedVariables false
set_option linter.unusedSimpArgs false
attribute [local simp] I.vc

theorem kids_mem (es : Nat) : ∀ (n : Nat) (l : List (List (List Ce))) (c : Kid), c ∈ kids es n l → ∃ i, l[i]? = some c.L ∧ c.id = n + i ∧ c.refs = [] ∧ c.es = es
  | _, [], c, h => by simp [kids] at h
  | n, L :: l, c, h => by
    simp only [kids, List.mem_cons] at h
    rcases h with rfl | h
    · exact ⟨0, rfl, rfl, rfl, rfl⟩
    · obtain ⟨i, h1, h2, h3, h4⟩ := kids_mem es (n + 1) l c h
      exact ⟨i + 1, by simpa using h1, by omega, h3, h4⟩
theorem lo_arg {w : World} {β : Nat → Hd} {F : Nat → Prop} {H : Heap} {vs : Array Value} {xs : List V} {i id n : Nat} (hr : RVs (cx w.heap H β F) vs xs) (hi : xs[i]? = some (.ptr id n 0 0)) (hd : hdOf H β id = some ((β id).wt n)) : (β id).lo = 0 := by
  have hlt := lt_of_get hi
  obtain ⟨v, hv⟩ : ∃ v, vs[i]? = some v := ⟨vs[i]'(by rw [hr.1]; exact hlt), Array.getElem?_eq_getElem _⟩
  exact lo_of_ptr (h := (β id).wt n) (hr.2 i v _ hv hi) hd rfl

end Go.Abs.G


namespace Go.Abs.G
open Go.Proofs
set_option linter.unusedVariables false
set_option linter.unusedSimpArgs false
attribute [local simp] I.vc

end Go.Abs.G


namespace Go.Abs.G
open Go.Proofs
set_option linter.unusedVariables false
set_option linter.unusedSimpArgs false
attribute [local simp] I.vc

/-- A store as one thing. -/
def St1 (s : List Dom) (T : List (List Ce)) : O := .tree [] [[.n 4 (s.map domCe), .n 1 T]]

/-- The struct first; then it holds the evidence for its doms. -/
theorem lo_of_tree {w : World} {F : Nat → Prop} {β : Nat → Hd} {H : Heap} {p c i j es k : Nat} {refs : List Nat} {rows : List (List Ce)} {row : List Ce} (hk : HOK w.heap H β F) (hp : H[p]? = some (.tree refs rows))
    (hi : rows[i]? = some row) (hj : row[j]? = some (.v (.own c es 0 k k))) (hc : hdOf H β c = some ((β c).wt k)) : (β c).lo = 0 := by
  rcases hk.ro p _ hp with hr | ⟨q1, q2, q3, q4, q5⟩
  · rw [hr.2.1] at hi; simp at hi
  · obtain ⟨u, Sx, hx, _⟩ := q4.cell hi hj
    have := hx.val
    cases this with
    | own hl hh => exact Nat.le_zero.1 ((hh _ hc).2 rfl).1

theorem close_store {w : World} {β : Nat → Hd} {F : Nat → Prop} {H : Heap} {s : List Dom} {T : List (List Ce)} {rf rb : List Nat} {a b : Nat} (hk : HOK w.heap H β F)
    (h0 : H[0]? = some (.mem false rf [[.own a 4 0 s.length s.length, .own b 1 0 T.length T.length]])) (ha : H[a]? = some (.mem false [] (s.map Dom.row))) (hb : H[b]? = some (.tree rb T)) (hT : Ce.idsR T = [])
    (na : a ≠ 0) (nb : b ≠ 0) (nab : a ≠ b) (hlo : (β 0).lo = 0) : ∃ β' H2, Adv F w H β w H2 β' ∧ H2[0]? = some (St1 s T) ∧ H2.length = H.length := by
  obtain ⟨β1, a1⟩ := adv_toTree hk h0 hlo
  generalize hP : O.tree rf (flatC [[.own a 4 0 s.length s.length, .own b 1 0 T.length T.length]]) = P at a1
  have p1 : (H.set 0 P)[0]? = some (.tree rf [[.v (.own a 4 0 s.length s.length), .v (.own b 1 0 T.length T.length)]]) := by rw [get_set h0, ← hP]; rfl
  have q1 : (H.set 0 P)[a]? = some (.mem false [] (s.map Dom.row)) := by rw [getElem?_set_ne' na]; exact ha
  have r1 : (H.set 0 P)[b]? = some (.tree rb T) := by rw [getElem?_set_ne' nb]; exact hb
  have la : (β1 a).lo = 0 := lo_of_tree (i := 0) (j := 0) a1.hok p1 rfl rfl (by unfold hdOf; rw [q1]; simp)
  have hl1 : (H.set 0 P).length = H.length := List.length_set
  generalize H.set 0 P = H1 at a1 p1 q1 r1 hl1
  obtain ⟨β2, a2⟩ := adv_toTree a1.hok q1 la
  rw [← domCe_flat] at a2
  have p2 : (H1.set a (.tree [] (s.map domCe)))[0]? = some (.tree rf [[.v (.own a 4 0 s.length s.length), .v (.own b 1 0 T.length T.length)]]) := by rw [getElem?_set_ne' (Ne.symm na)]; exact p1
  have q2 : (H1.set a (.tree [] (s.map domCe)))[a]? = some (.tree [] (s.map domCe)) := get_set q1
  have r2 : (H1.set a (.tree [] (s.map domCe)))[b]? = some (.tree rb T) := by rw [getElem?_set_ne' (Ne.symm nab)]; exact r1
  have hl2 : (H1.set a (.tree [] (s.map domCe))).length = H.length := by rw [List.length_set]; exact hl1
  generalize H1.set a (.tree [] (s.map domCe)) = H2 at a2 p2 q2 r2 hl2
  obtain ⟨β3, a3⟩ := adv_pack (i := 0) (j := 0) a2.hok p2 q2 (Ne.symm na) rfl rfl (by simp)
  generalize hP3 : O.tree (rf ++ []) _ = P3 at a3
  have p3 : ((H2.set a O.dead).set 0 P3)[0]? = some (.tree (rf ++ []) [[.n 4 (s.map domCe), .v (.own b 1 0 T.length T.length)]]) := by rw [get_set (x := _) (by rw [getElem?_set_ne' (Ne.symm na)]; exact p2), ← hP3]; rfl
  have r3 : ((H2.set a O.dead).set 0 P3)[b]? = some (.tree rb T) := by rw [getElem?_set_ne' nb, getElem?_set_ne' (Ne.symm nab)]; exact r2
  have hl3 : ((H2.set a O.dead).set 0 P3).length = H.length := by rw [List.length_set, List.length_set]; exact hl2
  generalize (H2.set a O.dead).set 0 P3 = H3 at a3 p3 r3 hl3
  obtain ⟨β4, a4⟩ := adv_pack (i := 0) (j := 1) a3.hok p3 r3 (Ne.symm nb) rfl rfl rfl
  generalize hP4 : O.tree (rf ++ [] ++ rb) _ = P4 at a4
  have p4 : ((H3.set b O.dead).set 0 P4)[0]? = some (.tree (rf ++ [] ++ rb) [[.n 4 (s.map domCe), .n 1 T]]) := by rw [get_set (x := _) (by rw [getElem?_set_ne' (Ne.symm nb)]; exact p3), ← hP4]; rfl
  have hl4 : ((H3.set b O.dead).set 0 P4).length = H.length := by rw [List.length_set, List.length_set]; exact hl3
  generalize (H3.set b O.dead).set 0 P4 = H4 at a4 p4 hl4
  obtain ⟨β5, a5⟩ := adv_refsT (refs' := []) a4.hok p4 (by simp [Ce.idsR, Ce.idsL, Ce.ids, domCe_ids, hT])
  exact ⟨β5, _, a1.trans (a2.trans (a3.trans (a4.trans a5))), get_set p4, by rw [List.length_set]; exact hl4⟩
end Go.Abs.G


namespace Go.Abs.G
open Go.Proofs
set_option linter.unusedVariables false
set_option linter.unusedSimpArgs false
attribute [local simp] I.vc

theorem open_store {xs : List V} {s : List Dom} {T : List (List Ce)} (hT : Ce.idsR T = []) : Step xs [St1 s T] (U s T) := fun w β F vs hk hr => by
  obtain ⟨β1, a1⟩ := adv_unpack (id := 0) (i := 0) (j := 0) hk rfl rfl rfl
  replace a1 : Adv F w [St1 s T] β w [.tree [1] [[.v (.own 1 4 0 (s.map domCe).length (s.map domCe).length), .n 1 T]], .tree [] (s.map domCe)] β1 := a1
  rw [List.length_map] at a1
  obtain ⟨β2, a2⟩ := adv_unpack (id := 0) (i := 0) (j := 1) a1.hok rfl rfl rfl
  replace a2 : Adv F w [.tree [1] [[.v (.own 1 4 0 s.length s.length), .n 1 T]], .tree [] (s.map domCe)] β1 w [.tree [2, 1] [[.v (.own 1 4 0 s.length s.length), .v (.own 2 1 0 T.length T.length)]], .tree [] (s.map domCe), .tree [1] T] β2 := a2
  obtain ⟨β3, a3⟩ := adv_refsT (id := 2) (refs' := []) a2.hok rfl (by rw [hT]; simp)
  obtain ⟨β4, a4⟩ := adv_toMem (id := 1) (refs := []) (rows := s.map Dom.row) a3.hok (by rw [← domCe_flat]; rfl)
  obtain ⟨β5, a5⟩ := adv_refsT (id := 0) (refs' := [1, 2]) a4.hok rfl (by simp [Ce.idsR, Ce.idsL, Ce.ids, V.ids])
  obtain ⟨β6, a6⟩ := adv_toMem (id := 0) (refs := [1, 2]) (rows := [[.own 1 4 0 s.length s.length, .own 2 1 0 T.length T.length]]) a5.hok rfl
  exact ⟨β6, a1.trans (a2.trans (a3.trans (a4.trans (a5.trans a6))))⟩

/-- A contract on a store that lies open, as one on a store as one thing. -/
theorem DC.packed {P : Program} {f : FuncId} {ys : List V} {s : List Dom} {T : List (List Ce)} {Q : V → Prop} {S' : List Dom} {T' : List (List Ce)} (hT : Ce.idsR T = []) (hT' : Ce.idsR T' = [])
    (h : DC P f (.ptr 0 1 0 0 :: ys) (U s T) fun r H => Q r ∧ H = U S' T') (hq : ∀ r, Q r → r.ids = []) : DC P f (.ptr 0 1 0 0 :: ys) [St1 s T] fun r H => Q r ∧ H = [St1 S' T'] := by
  refine DC.trim (Q := fun r H => Q r ∧ H[0]? = some (St1 S' T')) ?_ ?_
  rotate_left
  · rintro r H ⟨h1, h2⟩
    refine ⟨1, by simp, by rw [hq r h1]; simp, h1, ?_⟩
    match H, h2 with
    | x :: tl, h2 =>
      simp at h2
      subst h2
      simp [St1, limO, O.refs]
  refine DC.pre (open_store hT) (DC.post' h ?_)
  rintro x H1 ⟨h1, rfl⟩ w β F vs hk hr
  obtain ⟨β', H2, a, h2, _⟩ := close_store (a := 1) (b := 2) (rb := []) hk U_0 U_1 U_2 hT' (by simp) (by simp) (by simp) (lo_arg (i := 1) hr rfl rfl)
  exact ⟨β', H2, a, h1, h2⟩
end Go.Abs.G


/- The reference's store: two owned lists whose rows are only read. -/
namespace Go.Abs.G
open Go.Proofs
set_option linter.unusedVariables false
set_option linter.unusedSimpArgs false
attribute [local simp] I.vc

def flR (D : List (List V)) : Prop := (∀ f, D.map (V.renL f) = D) ∧ Ce.idsR (flatC D) = []

def RS (D M : List (List V)) : Heap := [.mem false [1, 2] [[.own 1 1 0 D.length D.length, .own 2 1 0 M.length M.length]], .mem false [] D, .mem false [] M]
def R1 (D M : List (List V)) : O := .tree [] [[.n 1 (flatC D), .n 1 (flatC M)]]

section
variable {D M D' M' : List (List V)} {E : Heap}
@[simp] theorem RS_len : (RS D M).length = 3 := rfl
@[simp] theorem RS_0 : (RS D M)[0]? = some (.mem false [1, 2] [[.own 1 1 0 D.length D.length, .own 2 1 0 M.length M.length]]) := rfl
@[simp] theorem RS_1 : (RS D M)[1]? = some (.mem false [] D) := rfl
@[simp] theorem RS_2 : (RS D M)[2]? = some (.mem false [] M) := rfl
@[simp] theorem RSE_0 : (RS D M ++ E)[0]? = some (.mem false [1, 2] [[.own 1 1 0 D.length D.length, .own 2 1 0 M.length M.length]]) := rfl
@[simp] theorem RSE_1 : (RS D M ++ E)[1]? = some (.mem false [] D) := rfl
@[simp] theorem RSE_2 : (RS D M ++ E)[2]? = some (.mem false [] M) := rfl
@[simp] theorem RSE_0' (h) : (RS D M ++ E)[0]'h = .mem false [1, 2] [[.own 1 1 0 D.length D.length, .own 2 1 0 M.length M.length]] := rfl
@[simp] theorem RSE_1' (h) : (RS D M ++ E)[1]'h = .mem false [] D := rfl
@[simp] theorem RSE_2' (h) : (RS D M ++ E)[2]'h = .mem false [] M := rfl
@[simp] theorem RS_0' (h) : (RS D M)[0]'h = .mem false [1, 2] [[.own 1 1 0 D.length D.length, .own 2 1 0 M.length M.length]] := rfl
@[simp] theorem RS_1' (h) : (RS D M)[1]'h = .mem false [] D := rfl
@[simp] theorem RS_2' (h) : (RS D M)[2]'h = .mem false [] M := rfl
@[simp] theorem RSE_3 (a : O) : (RS D M ++ (a :: E))[3]? = some a := rfl
@[simp] theorem RSE_3' (a : O) (h) : (RS D M ++ (a :: E))[3]'h = a := rfl
@[simp] theorem RSE_4 (a b : O) : (RS D M ++ (a :: b :: E))[4]? = some b := rfl
@[simp] theorem RSE_4' (a b : O) (h) : (RS D M ++ (a :: b :: E))[4]'h = b := rfl
@[simp] theorem RSE_5 (a b c : O) : (RS D M ++ (a :: b :: c :: E))[5]? = some c := rfl
@[simp] theorem RSE_5' (a b c : O) (h) : (RS D M ++ (a :: b :: c :: E))[5]'h = c := rfl
@[simp] theorem RSE_set3 (a o : O) : (RS D M ++ (a :: E)).set 3 o = RS D M ++ (o :: E) := rfl
@[simp] theorem RSE_set4 (a b o : O) : (RS D M ++ (a :: b :: E)).set 4 o = RS D M ++ (a :: o :: E) := rfl
@[simp] theorem RSE_set5 (a b c o : O) : (RS D M ++ (a :: b :: c :: E)).set 5 o = RS D M ++ (a :: b :: o :: E) := rfl
@[simp] theorem RS_lim (n : Nat) (h : 3 ≤ n) : (RS D M).map (limO n) = RS D M := by
  have h1 : 1 < n := by omega
  have h2 : 2 < n := by omega
  simp [RS, limO, O.refs, h1, h2]
@[simp] theorem RS_take3 : List.take 3 (RS D M) = RS D M := rfl
@[simp] theorem RS_clos : clos (RS D M) 8 [0] = [0, 1, 2] := by simp [clos, addAll, O.refs, RS]
@[simp] theorem RSE_clos : clos (RS D M ++ E) 8 [0] = [0, 1, 2] := by simp [clos, addAll, O.refs, RS]
end

/-- A list of lists, and marks of it. -/
def dR (d : List (List Int)) : List (List V) := d.map fun l => [vInts l]
def mR (ms : List (List (List Int))) : List (List V) := ms.map fun d => [vIntss d]
theorem flatC_ids : ∀ (D : List (List V)), (∀ r ∈ D, V.idsL r = []) → Ce.idsR (flatC D) = []
  | [], _ => rfl
  | r :: D, h => by
    have hr : ∀ (r : List V), Ce.idsL (r.map Ce.v) = V.idsL r := fun r => by
      induction r with
      | nil => rfl
      | cons x r ih => simp [Ce.idsL, Ce.ids, V.idsL, ih]
    have := flatC_ids D (fun r' h' => h r' (by simp [h']))
    simp only [flatC] at this
    simp [flatC, Ce.idsR, hr, h r (by simp), this]
theorem fl_dR (d : List (List Int)) : flR (dR d) := ⟨fun f => by simp [dR, V.renL, V.ren, vInts, Function.comp_def], flatC_ids _ fun r hr => by
  simp only [dR, List.mem_map] at hr
  obtain ⟨l, _, rfl⟩ := hr
  rfl⟩
theorem fl_mR (ms : List (List (List Int))) : flR (mR ms) := ⟨fun f => by simp [mR, V.renL, V.ren, vIntss, Function.comp_def], flatC_ids _ fun r hr => by
  simp only [mR, List.mem_map] at hr
  obtain ⟨l, _, rfl⟩ := hr
  rfl⟩
@[simp] theorem dR_len (d : List (List Int)) : (dR d).length = d.length := by simp [dR]
@[simp] theorem mR_len (ms : List (List (List Int))) : (mR ms).length = ms.length := by simp [mR]
end Go.Abs.G



namespace Go.Abs
set_option linter.unusedVariables false

/-- A slice cut short lies in no more blocks. -/
theorem TR.take {c : Cx} {refs : List Nat} {S : Nat → Prop} {ad : Addr} {n cap es : Nat} {rows : List (List Ce)} (l : Nat) (h : TR c refs S (.slice (some ad) n cap) (.n es rows)) (hl : l ≤ rows.length) :
    ∃ S', (∀ k, S' k → S k) ∧ TR c refs S' (.slice (some ad) l cap) (.n es (rows.take l)) := by
  have hn : n = rows.length := by cases h <;> rfl
  subst hn
  by_cases hne : rows = []
  · subst hne
    obtain rfl : l = 0 := by simpa using hl
    exact ⟨S, fun _ h => h, by simpa using h⟩
  obtain ⟨b, o, cs, E, g, T, had, hb, hcap, hsz, hlen, hg, hr, hT, hS, hd, hd2⟩ := h.inv (.inl hne)
  have hlt : (rows.take l).length = l := by rw [List.length_take]; omega
  have hget : ∀ {i : Nat} {row : List Ce}, (rows.take l)[i]? = some row → i < l ∧ rows[i]? = some row := fun {i row} h => by
    rw [List.getElem?_take] at h
    split at h
    · next q => exact ⟨q, h⟩
    · cases h
  refine ⟨fun k => k = b ∨ ∃ i j, i < l ∧ T i j k, fun k hk => (hS k).2 (hk.imp id fun ⟨i, j, _, e⟩ => ⟨i, j, e⟩), ?_⟩
  have := TR.n (c := c) (refs := refs) (S := fun k => k = b ∨ ∃ i j, i < l ∧ T i j k) had cs E g (fun i j k => i < l ∧ T i j k) hb (by rw [hlt]; omega) hsz (fun i row h => hlen i row (hget h).2) (fun i row h j x hx => hg i row (hget h).2 j x hx)
    (fun i row h j x hx => (hr i row (hget h).2 j x hx).congr fun k => ⟨fun e => ⟨(hget h).1, e⟩, fun e => e.2⟩)
    (fun i j k h => by
      obtain ⟨row, x, h1, h2⟩ := hT i j k h.2
      exact ⟨row, x, by rw [List.getElem?_take, if_pos h.1]; exact h1, h2⟩)
    (fun k => Iff.rfl) (fun i j h => hd i j h.2) (fun i j i' j' k h h' => hd2 i j i' j' k h.2 h'.2)
  rw [hlt] at this
  exact this
end Go.Abs

namespace Go.Abs
set_option linter.unusedVariables false
section
variable {w : World} {β : Nat → Hd} {F : Nat → Prop} {H : Heap}

end
end Go.Abs

namespace Go.Abs.G
open Go.Proofs
set_option linter.unusedVariables false
-- hallmark/hallmarkref11.own
def hallmarkref11_ownF.ann : List (Nat × RA) := [(0, { gs := [], keep := some [0] }), (1, { gs := [], keep := some [0, 3] }), (2, { gs := [], keep := some [0, 3, 4] }), (3, { gs := [], keep := some [0, 3, 4, 8] }), (4, { gs := [], keep := some [0, 3, 4] }), (5, { gs := [(6, [.frz 16, .nilv 16 1])], keep := some [0, 3, 4], aps := [(6, [1000004])] }), (6, { gs := [(0, [.frz 3, .nilv 3 1])], keep := some [2] })]
def hallmarkref11_ownF.b0 : C := .seq (.seq (.reg 0 [.o 0 (.lt (some 5) (.mov (.tmp 4))),
    .o 1 (.lt (some 6) (.mov (.tmp 0))),
    .o 2 (.lt (some 7) (.lenSl (.tmp 6))),
    .o 3 (.lt (some 8) (.bin .lss (.tmp 5) (.tmp 7))),
    .g (.keep [0, 3, 4, 8])]) (.cond (.tmp 8) (.skip) (.exit 0))) (.seq (.block 1 (.reg 3 [.o 0 (.lt (some 11) (.mov (.tmp 3))),
    .o 1 (.lt (some 12) (.mov (.tmp 0))),
    .o 2 (.lt (some 13) (.mov (.tmp 4))),
    .o 3 (.lt (some 14) (.ixS 1 (.tmp 12) (.tmp 13))),
    .o 4 (.lt (some 15) (.ld false 1 (.tmp 14))),
    .o 5 (.app [] (some 16) 0 1 8 (.const (.slice none 0 0)) (.tmp 15)),
    .g (.frz 16),
    .g (.nilv 16 1),
    .o 6 (.bsv (some 17) 1 1 [.a (.slice none 0 0)] [(0, (.tmp 16))]),
    .o 7 (.app [] (some 18) 2 1 24 (.tmp 11) (.tmp 17)),
    .o 8 (.lt (some 3) (.mov (.tmp 18))),
    .g (.keep [0, 3, 4])])) (.reg 0 [.o 0 (.lt (some 9) (.mov (.tmp 4))),
    .o 1 (.lt (some 10) (.bin .add (.tmp 9) (.const (.int .i64 1)))),
    .o 2 (.lt (some 4) (.mov (.tmp 10))),
    .g (.keep [0, 3, 4])]))
def hallmarkref11_ownF.rs : List Rs := [.sl 2]
end Go.Abs.G



/- What the reference's look at a problem tells: the same. -/
namespace Go.Abs
set_option linter.unusedVariables false

end Go.Abs

namespace Go.Abs.G
open Go.Proofs
attribute [local simp] I.vc sub merge place
set_option linter.unusedVariables false

theorem within_spec (n most : Int) (h0 : 0 ≤ most) (h1 : most ≤ 9223372036854775807) : Pf Tryz.prog model_within.id [V.i n, V.i most] (.bool (withinB n most)) := by
  refine DC.of model_within.ok (by simp) ?_
  have hw : IntKind.i64.wrap (-most) = -most := wrap64 (by omega) (by omega)
  simp [model_within.ir, model_within.rs, hw, withinB]
  by_cases h : -most ≤ n <;> simp [h] <;> omega

theorem great1_spec (n : Int) : Pf Tryz.prog model_great_1.id [V.i n] (.bool (!withinB n 1000000000)) := by
  refine DC.of model_great_1.ok (by simp) ?_
  simp [model_great_1.ir, model_great_1.rs]
  exact (within_spec n 1000000000 (by decide) (by decide)).use (by simp)

/-- The place of the first of which something is told. -/
def firstAt {α : Type} (p : α → Bool) : Nat → List α → Int
  | _, [] => -1
  | i, x :: l => if p x then i else firstAt p (i + 1) l

theorem firstAt_any {α : Type} (p : α → Bool) : ∀ (l : List α) (i : Nat), decide (0 ≤ firstAt p i l) = l.any p := by
  intro l
  induction l with
  | nil => intro i; simp [firstAt]
  | cons x l ih =>
    intro i
    simp only [firstAt, List.any_cons]
    by_cases h : p x = true
    · simp [h]
    · simp [h, ih]

theorem firstAt_drop {α : Type} (p : α → Bool) {l : List α} {i : Nat} (h : i < l.length) : firstAt p i (l.drop i) = if p l[i] then (i : Int) else firstAt p (i + 1) (l.drop (i + 1)) := by
  rw [List.drop_eq_getElem_cons h]; rfl

theorem index_int_spec {f : FuncId} {cap : List V} {p : Int → Bool} {l : List Int} (hok : okFunc Tryz.prog f = true) (hids : V.idsL cap = []) (hg : ∀ t ∈ l, DP Tryz.prog f (V.i t :: cap) fun r => r = .bool (p t)) (hl : l.length ≤ maxLen) :
    Pf Tryz.prog slices_IndexFunc_Lint_int.id [vInts l, .fn (.func f) [] cap] (V.i (firstAt p 0 l)) := by
  have hm : (maxLen : Int) ≤ 9223372036854775807 := by decide
  refine DC.of slices_IndexFunc_Lint_int.ok (by simp) ?_
  simp [slices_IndexFunc_Lint_int.ir, slices_IndexFunc_Lint_int.rs, vInts]
  refine WI.loop 0 (by simp) (fun s => ∃ i, i ≤ l.length ∧ gt s.sl 1 = .fn (.func f) [] cap ∧ gt s.sl 0 = vInts l ∧ gt s.sl 7 = V.i l.length ∧ gt s.sl 8 = V.i i ∧ s.hp = [] ∧ firstAt p 0 l = firstAt p i (l.drop i)) (fun s => (l.length - (gt s.sl 8).num).toNat) ?_ ?_
  · exact ⟨0, by simp [vInts]⟩
  · rintro ⟨sl, hp, bs⟩ ⟨i, hi, h1, h0, h7, h8, rfl, he⟩
    by_cases hil : i < l.length
    · simp [slices_IndexFunc_Lint_int.b0, h1, h0, h7, h8, vInts, hil, hok, hids]
      refine DP.mono (hg _ (List.getElem_mem hil)) fun r hr => ?_
      subst hr
      rw [firstAt_drop p hil] at he
      have hw : IntKind.i64.wrap ((i : Int) + 1) = ((i + 1 : Nat) : Int) := by rw [wrap64] <;> omega
      cases hp : p l[i]
      · simp [hw, he, hp]
        exact ⟨⟨i + 1, by omega, by omega, rfl⟩, by omega⟩
      · simp [he, hp]
    · obtain rfl : i = l.length := by omega
      simp [slices_IndexFunc_Lint_int.b0, h1, h0, h7, h8, he, firstAt]

theorem contains_int_spec {f : FuncId} {cap : List V} {p : Int → Bool} {l : List Int} (hok : okFunc Tryz.prog f = true) (hids : V.idsL cap = []) (hg : ∀ t ∈ l, DP Tryz.prog f (V.i t :: cap) fun r => r = .bool (p t)) (hl : l.length ≤ maxLen) :
    Pf Tryz.prog slices_ContainsFunc_Lint_int.id [vInts l, .fn (.func f) [] cap] (.bool (l.any p)) := by
  refine DC.of slices_ContainsFunc_Lint_int.ok (by simp) ?_
  simp [slices_ContainsFunc_Lint_int.ir, slices_ContainsFunc_Lint_int.rs, vInts, hids]
  refine (index_int_spec hok hids hg hl).use ?_
  simp [firstAt_any]

theorem great_spec (l : List Int) (hl : l.length ≤ maxLen) : Pf Tryz.prog model_great.id [vInts l] (.bool (greatB l)) := by
  refine DC.of model_great.ok (by simp) ?_
  simp [model_great.ir, model_great.rs, vInts]
  refine (contains_int_spec (by simp) (by simp) (fun t _ => great1_spec t) hl).use ?_
  simp [greatB]

theorem counts_spec (b : Bool) (n : Nat) : Pf Tryz.prog model_counts.id [.bool b, V.i n] (.bool (countsB b n)) := by
  refine DC.of model_counts.ok (by simp) ?_
  simp [model_counts.ir, model_counts.rs, countsB]
  cases b <;> by_cases h : 1 ≤ n <;> simp [h] <;> omega

end Go.Abs.G



namespace Go.Abs.G
open Go.Proofs
attribute [local simp] I.vc sub merge place
set_option linter.unusedVariables false
theorem index_ints_spec {f : FuncId} {cap : List V} {p : List Int → Bool} {l : List (List Int)} (hok : okFunc Tryz.prog f = true) (hids : V.idsL cap = []) (hg : ∀ t ∈ l, DP Tryz.prog f (vInts t :: cap) fun r => r = .bool (p t)) (hl : l.length ≤ maxLen) :
    Pf Tryz.prog slices_IndexFunc_LLint_Lint.id [vIntss l, .fn (.func f) [] cap] (V.i (firstAt p 0 l)) := by
  have hm : (maxLen : Int) ≤ 9223372036854775807 := by decide
  refine DC.of slices_IndexFunc_LLint_Lint.ok (by simp) ?_
  simp [slices_IndexFunc_LLint_Lint.ir, slices_IndexFunc_LLint_Lint.rs, vIntss]
  refine WI.loop 0 (by simp) (fun s => ∃ i, i ≤ l.length ∧ gt s.sl 1 = .fn (.func f) [] cap ∧ gt s.sl 0 = vIntss l ∧ gt s.sl 7 = V.i l.length ∧ gt s.sl 8 = V.i i ∧ s.hp = [] ∧ firstAt p 0 l = firstAt p i (l.drop i)) (fun s => (l.length - (gt s.sl 8).num).toNat) ?_ ?_
  · exact ⟨0, by simp [vIntss]⟩
  · rintro ⟨sl, hp, bs⟩ ⟨i, hi, h1, h0, h7, h8, rfl, he⟩
    by_cases hil : i < l.length
    · simp [slices_IndexFunc_LLint_Lint.b0, h1, h0, h7, h8, vIntss, vInts, hil, hok, hids]
      refine DP.mono (hg _ (List.getElem_mem hil)) fun r hr => ?_
      subst hr
      rw [firstAt_drop p hil] at he
      have hw : IntKind.i64.wrap ((i : Int) + 1) = ((i + 1 : Nat) : Int) := by rw [wrap64] <;> omega
      cases hp : p l[i]
      · simp [hw, he, hp]
        exact ⟨⟨i + 1, by omega, by omega, rfl⟩, by omega⟩
      · simp [he, hp]
    · obtain rfl : i = l.length := by omega
      simp [slices_IndexFunc_LLint_Lint.b0, h1, h0, h7, h8, he, firstAt]

theorem contains_ints_spec {f : FuncId} {cap : List V} {p : List Int → Bool} {l : List (List Int)} (hok : okFunc Tryz.prog f = true) (hids : V.idsL cap = []) (hg : ∀ t ∈ l, DP Tryz.prog f (vInts t :: cap) fun r => r = .bool (p t)) (hl : l.length ≤ maxLen) :
    Pf Tryz.prog slices_ContainsFunc_LLint_Lint.id [vIntss l, .fn (.func f) [] cap] (.bool (l.any p)) := by
  refine DC.of slices_ContainsFunc_LLint_Lint.ok (by simp) ?_
  simp [slices_ContainsFunc_LLint_Lint.ir, slices_ContainsFunc_LLint_Lint.rs, vIntss, hids]
  refine (index_ints_spec hok hids hg hl).use ?_
  simp [firstAt_any]

theorem index_var_spec {f : FuncId} {cap : List V} {p : Var → Bool} {l : List (Var)} (hok : okFunc Tryz.prog f = true) (hids : V.idsL cap = []) (hg : ∀ t ∈ l, DP Tryz.prog f (.agg t.cells :: cap) fun r => r = .bool (p t)) (hl : l.length ≤ maxLen) :
    Pf Tryz.prog slices_IndexFunc_Lapi_Var_api_Var.id [vVars l, .fn (.func f) [] cap] (V.i (firstAt p 0 l)) := by
  have hm : (maxLen : Int) ≤ 9223372036854775807 := by decide
  refine DC.of slices_IndexFunc_Lapi_Var_api_Var.ok (by simp) ?_
  simp [slices_IndexFunc_Lapi_Var_api_Var.ir, slices_IndexFunc_Lapi_Var_api_Var.rs, vVars]
  refine WI.loop 0 (by simp) (fun s => ∃ i, i ≤ l.length ∧ gt s.sl 1 = .fn (.func f) [] cap ∧ gt s.sl 0 = vVars l ∧ gt s.sl 7 = V.i l.length ∧ gt s.sl 8 = V.i i ∧ s.hp = [] ∧ firstAt p 0 l = firstAt p i (l.drop i)) (fun s => (l.length - (gt s.sl 8).num).toNat) ?_ ?_
  · exact ⟨0, by simp [vVars]⟩
  · rintro ⟨sl, hp, bs⟩ ⟨i, hi, h1, h0, h7, h8, rfl, he⟩
    by_cases hil : i < l.length
    · simp [slices_IndexFunc_Lapi_Var_api_Var.b0, h1, h0, h7, h8, vVars, Var.cells, hil, hok, hids]
      refine DP.mono (hg _ (List.getElem_mem hil)) fun r hr => ?_
      subst hr
      rw [firstAt_drop p hil] at he
      have hw : IntKind.i64.wrap ((i : Int) + 1) = ((i + 1 : Nat) : Int) := by rw [wrap64] <;> omega
      cases hp : p l[i]
      · simp [hw, he, hp]
        exact ⟨⟨i + 1, by omega, by omega, rfl⟩, by omega⟩
      · simp [he, hp]
    · obtain rfl : i = l.length := by omega
      simp [slices_IndexFunc_Lapi_Var_api_Var.b0, h1, h0, h7, h8, he, firstAt]

theorem contains_var_spec {f : FuncId} {cap : List V} {p : Var → Bool} {l : List (Var)} (hok : okFunc Tryz.prog f = true) (hids : V.idsL cap = []) (hg : ∀ t ∈ l, DP Tryz.prog f (.agg t.cells :: cap) fun r => r = .bool (p t)) (hl : l.length ≤ maxLen) :
    Pf Tryz.prog slices_ContainsFunc_Lapi_Var_api_Var.id [vVars l, .fn (.func f) [] cap] (.bool (l.any p)) := by
  refine DC.of slices_ContainsFunc_Lapi_Var_api_Var.ok (by simp) ?_
  simp [slices_ContainsFunc_Lapi_Var_api_Var.ir, slices_ContainsFunc_Lapi_Var_api_Var.rs, vVars, hids]
  refine (index_var_spec hok hids hg hl).use ?_
  simp [firstAt_any]

end Go.Abs.G



namespace Go.Abs.G
open Go.Proofs
attribute [local simp] I.vc sub merge place
set_option linter.unusedVariables false
theorem any_take_succ {α : Type} (p : α → Bool) {l : List α} {i : Nat} (h : i < l.length) : (l.take (i + 1)).any p = ((l.take i).any p || p l[i]) := by
  rw [List.take_succ_eq_append_getElem h, List.any_append]; simp

theorem terms_spec (l : List Term) (vars : Int) (hl : l.length ≤ maxLen) :
    Pf Tryz.prog model_terms.id [vTerms l, V.i vars] (.tup [.bool (badVarB vars l), .bool (badCoefB l)]) := by
  have hm : (maxLen : Int) ≤ 9223372036854775807 := by decide
  refine DC.of model_terms.ok (by simp) ?_
  simp [model_terms.ir, model_terms.rs, vTerms]
  refine WI.loop 0 (by simp) (fun s => ∃ i, i ≤ l.length ∧ gt s.sl 1 = V.i vars ∧ gt s.sl 4 = .bool (badVarB vars (l.take i)) ∧ gt s.sl 5 = .bool (badCoefB (l.take i)) ∧ gt s.sl 8 = vTerms l ∧ gt s.sl 9 = V.i l.length ∧ gt s.sl 10 = V.i i ∧ s.hp = []) (fun s => (l.length - (gt s.sl 10).num).toNat) ?_ ?_
  · exact ⟨0, by simp [vTerms, badVarB, badCoefB]⟩
  · rintro ⟨sl, hp, bs⟩ ⟨i, hi, h1, h4, h5, h8, h9, h10, rfl⟩
    by_cases hil : i < l.length
    · have e1 : badVarB vars (l.take (i + 1)) = (badVarB vars (l.take i) || (decide (l[i].x < 0) || decide (vars ≤ l[i].x))) := any_take_succ _ hil
      have e2 : badCoefB (l.take (i + 1)) = (badCoefB (l.take i) || (decide (l[i].c = 0) || !withinB l[i].c 1000000)) := any_take_succ _ hil
      have hw : IntKind.i64.wrap ((i : Int) + 1) = ((i + 1 : Nat) : Int) := by rw [wrap64] <;> omega
      have g10 := h10
      unfold model_terms.b0
      refine vc_cut (fun s => gt s.sl 1 = V.i vars ∧ gt s.sl 4 = .bool (badVarB vars (l.take i)) ∧ gt s.sl 5 = .bool (badCoefB (l.take i)) ∧ gt s.sl 8 = vTerms l ∧ gt s.sl 9 = V.i l.length ∧ gt s.sl 10 = V.i i ∧ gt s.sl 11 = V.bool true ∧ s.hp = []) (by simp [h1, h4, h5, h8, h9, h10, hil]) ?_
      rintro ⟨sl, hp, bs⟩ ⟨h1, h4, h5, h8, h9, h10, h11, rfl⟩
      refine vc_cut (fun s => gt s.sl 1 = V.i vars ∧ gt s.sl 4 = .bool (badVarB vars (l.take i)) ∧ gt s.sl 5 = .bool (badCoefB (l.take i)) ∧ gt s.sl 8 = vTerms l ∧ gt s.sl 9 = V.i l.length ∧ gt s.sl 10 = V.i i ∧ s.hp = []) (by simp [h1, h4, h5, h8, h9, h10, h11, hil]) ?_
      rintro ⟨sl, hp, bs⟩ ⟨h1, h4, h5, h8, h9, h10, rfl⟩
      refine vc_cut (fun s => gt s.sl 1 = V.i vars ∧ gt s.sl 4 = .bool (badVarB vars (l.take (i + 1))) ∧ gt s.sl 5 = .bool (badCoefB (l.take (i + 1))) ∧ gt s.sl 8 = vTerms l ∧ gt s.sl 9 = V.i l.length ∧ gt s.sl 10 = V.i i ∧ s.hp = [.mem false [] [l[i].cells]]) (vc_block_of ?_) ?_
      · refine vc_cut (fun s => gt s.sl 1 = V.i vars ∧ gt s.sl 4 = .bool (badVarB vars (l.take i)) ∧ gt s.sl 5 = .bool (badCoefB (l.take i)) ∧ gt s.sl 7 = .ptr 0 1 0 0 ∧ gt s.sl 8 = vTerms l ∧ gt s.sl 9 = V.i l.length ∧ gt s.sl 10 = V.i i ∧ s.hp = [.mem false [] [l[i].cells]]) (by simp [h1, h4, h5, h8, h9, h10, vTerms, Term.cells, hil]) ?_
        rintro ⟨sl, hp, bs⟩ ⟨h1, h4, h5, h7, h8, h9, h10, rfl⟩
        refine vc_cut (fun s => gt s.sl 1 = V.i vars ∧ gt s.sl 4 = .bool (badVarB vars (l.take (i + 1))) ∧ gt s.sl 5 = .bool (badCoefB (l.take i)) ∧ gt s.sl 7 = .ptr 0 1 0 0 ∧ gt s.sl 8 = vTerms l ∧ gt s.sl 9 = V.i l.length ∧ gt s.sl 10 = V.i i ∧ s.hp = [.mem false [] [l[i].cells]]) ?_ ?_
        · rw [e1]
          simp [h1, h4, h5, h7, h8, h9, h10, vTerms, Term.cells]
          cases badVarB vars (l.take i) <;> simp
          by_cases hx : l[i].x < 0 <;> simp [hx] <;> omega
        rintro ⟨sl, hp, bs⟩ ⟨h1, h4, h5, h7, h8, h9, h10, rfl⟩
        rw [e2]
        simp [h1, h4, h5, h7, h8, h9, h10, vTerms, Term.cells]
        cases badCoefB (l.take i) <;> simp
        by_cases hx : l[i].c = 0 <;> simp [hx]
        refine (within_spec l[i].c 1000000 (by decide) (by decide)).use ?_
        simp
      · rintro ⟨sl, hp, bs⟩ ⟨h1, h4, h5, h8, h9, h10, rfl⟩
        simp [h1, h4, h5, h8, h9, h10, hw, vTerms, g10]
        exact ⟨⟨i + 1, by omega, rfl, rfl, by omega⟩, by omega⟩
    · obtain rfl : i = l.length := by omega
      simp [model_terms.b0, h1, h4, h5, h8, h9, h10]

theorem wide1_spec (r : List Int) (c : Con) : Pf Tryz.prog model_wide_1.id [vInts r, .ref c.cells 0] (.bool (decide (r.length ≠ c.xs.length))) := by
  refine DC.of model_wide_1.ok (by simp) ?_
  simp [model_wide_1.ir, model_wide_1.rs, vInts, Con.cells, vTerms, vIntss]
  by_cases h : r.length = c.xs.length <;> simp [h]
  omega

theorem byteArray_ext {s t : ByteArray} (h : s.toList = t.toList) : s = t := by
  have hs : ∀ a : ByteArray, a.toList = a.data.toList := fun a => ByteArray.toList_eq a
  rw [hs, hs] at h
  exact ByteArray.ext (Array.ext' h)

theorem variable1_spec (w v : Var) : Pf Tryz.prog model_variable_1.id [.agg w.cells, .ref v.cells 0] (.bool (decide (w.name = v.name))) := by
  refine DC.of model_variable_1.ok (by simp) ?_
  simp [model_variable_1.ir, model_variable_1.rs, Var.cells]
  by_cases h : w.name = v.name <;> simp [h]
  exact fun h' => h (byteArray_ext h')

end Go.Abs.G



namespace Go.Abs.G
open Go.Proofs
attribute [local simp] I.vc sub merge place
set_option linter.unusedVariables false

theorem wide_spec (c : Con) (n : Needs) (f : FuncId) (hr : c.rows.length ≤ maxLen) : Pf Tryz.prog model_wide.id [.agg c.cells, .agg (n.cells f)] (.bool (wideB c n)) := by
  refine DC.of model_wide.ok (by simp) ?_
  simp [model_wide.ir, model_wide.rs, wideB, Con.cells, vTerms, vInts, vIntss, Needs.cells]
  by_cases hx : 8 < c.xs.length
  · have hx' : (8 : Int) < c.xs.length := by omega
    cases n.rows <;> simp [hx, hx', Int.not_le.2 hx']
  · have hx' : ¬ (8 : Int) < c.xs.length := by omega
    have hx2 : (c.xs.length : Int) ≤ 8 := by omega
    cases n.rows <;> simp [hx, hx', hx2]
    refine (counts_spec true c.rows.length).use ?_
    simp
    cases hb : countsB true c.rows.length <;> simp
    refine DP.mono (contains_ints_spec (p := fun r => decide (r.length ≠ c.xs.length)) (cap := [.ref c.cells 0]) (by simp) (by simp) (fun t _ => wide1_spec t c) hr) fun r hr => ?_
    subst hr
    simp

theorem fieldB_eq (c : Con) (n : Needs) : fieldB c n = (decide (¬ ((if n.op then 0 else c.op) = 0 ∧ (if n.k then 0 else c.k) = 0 ∧ (if n.v then 0 else c.v) = 0 ∧ (if n.x then 0 else c.x) = 0 ∧ (if n.y then 0 else c.y) = 0)) || (!n.terms && decide (0 < c.terms.length)) || (!n.xs && decide (0 < c.xs.length)) || (!n.table && decide (0 < c.table.length)) || (!n.rows && decide (0 < c.rows.length))) := by
  have key : ((!n.op && decide (c.op ≠ 0)) || (!n.k && decide (c.k ≠ 0)) || (!n.v && decide (c.v ≠ 0)) || (!n.x && decide (c.x ≠ 0)) || (!n.y && decide (c.y ≠ 0))) = decide (¬ ((if n.op then 0 else c.op) = 0 ∧ (if n.k then 0 else c.k) = 0 ∧ (if n.v then 0 else c.v) = 0 ∧ (if n.x then 0 else c.x) = 0 ∧ (if n.y then 0 else c.y) = 0)) := by
    cases n.op <;> cases n.k <;> cases n.v <;> cases n.x <;> cases n.y <;> rw [Bool.eq_iff_iff] <;> simp <;> omega
  unfold fieldB
  rw [key]

theorem field_spec (c : Con) (n : Needs) (f : FuncId) : Pf Tryz.prog model_field.id [.agg c.cells, .agg (n.cells f)] (.bool (fieldB c n)) := by
  refine DC.of model_field.ok (by simp) ?_
  unfold model_field.ir
  have hc : (V.agg c.cells).sized [] 10 := by simp [Con.cells, vTerms, vInts, vIntss]
  refine vc_cut (fun s => gt s.sl 2 = .ptr 0 1 0 0 ∧ gt s.sl 3 = .ptr 1 1 0 0 ∧ s.hp = [.mem false [] [c.cells], .mem false [] [n.cells f]]) (by simp [Con.cells, vTerms, vInts, vIntss, Needs.cells]) ?_
  rintro ⟨sl, hp, bs⟩ ⟨h2, h3, rfl⟩
  refine vc_cut (fun s => gt s.sl 2 = .ptr 0 1 0 0 ∧ gt s.sl 3 = .ptr 1 1 0 0 ∧ gt s.sl 5 = .ptr 2 1 0 0 ∧ s.hp = [.mem false [] [c.cells], .mem false [] [n.cells f], .mem false [] [[V.i c.op, V.i c.k, V.i c.v, V.i c.x, V.i c.y]]]) (by simp [h2, h3, Con.cells, vTerms, vInts, vIntss, Needs.cells]) ?_
  rintro ⟨sl, hp, bs⟩ ⟨h2, h3, h5, rfl⟩
  have key : ∀ (o k v x y : Int), o = (if n.op then 0 else c.op) → True := fun _ _ _ _ _ _ => trivial
  refine vc_cut (fun s => gt s.sl 2 = .ptr 0 1 0 0 ∧ gt s.sl 3 = .ptr 1 1 0 0 ∧ gt s.sl 5 = .ptr 2 1 0 0 ∧ s.hp = [.mem false [] [c.cells], .mem false [] [n.cells f], .mem false [] [[V.i (if n.op then 0 else c.op), V.i c.k, V.i c.v, V.i c.x, V.i c.y]]]) (by cases hb : n.op <;> simp [h2, h3, h5, Con.cells, vTerms, vInts, vIntss, Needs.cells, hb]) ?_
  rintro ⟨sl, hp, bs⟩ ⟨h2, h3, h5, rfl⟩
  refine vc_cut (fun s => gt s.sl 2 = .ptr 0 1 0 0 ∧ gt s.sl 3 = .ptr 1 1 0 0 ∧ gt s.sl 5 = .ptr 2 1 0 0 ∧ s.hp = [.mem false [] [c.cells], .mem false [] [n.cells f], .mem false [] [[V.i (if n.op then 0 else c.op), V.i c.k, V.i (if n.v then 0 else c.v), V.i c.x, V.i c.y]]]) (by cases hb : n.v <;> simp [h2, h3, h5, Con.cells, vTerms, vInts, vIntss, Needs.cells, hb]) ?_
  rintro ⟨sl, hp, bs⟩ ⟨h2, h3, h5, rfl⟩
  refine vc_cut (fun s => gt s.sl 2 = .ptr 0 1 0 0 ∧ gt s.sl 3 = .ptr 1 1 0 0 ∧ gt s.sl 5 = .ptr 2 1 0 0 ∧ s.hp = [.mem false [] [c.cells], .mem false [] [n.cells f], .mem false [] [[V.i (if n.op then 0 else c.op), V.i (if n.k then 0 else c.k), V.i (if n.v then 0 else c.v), V.i c.x, V.i c.y]]]) (by cases hb : n.k <;> simp [h2, h3, h5, Con.cells, vTerms, vInts, vIntss, Needs.cells, hb]) ?_
  rintro ⟨sl, hp, bs⟩ ⟨h2, h3, h5, rfl⟩
  refine vc_cut (fun s => gt s.sl 2 = .ptr 0 1 0 0 ∧ gt s.sl 3 = .ptr 1 1 0 0 ∧ gt s.sl 5 = .ptr 2 1 0 0 ∧ s.hp = [.mem false [] [c.cells], .mem false [] [n.cells f], .mem false [] [[V.i (if n.op then 0 else c.op), V.i (if n.k then 0 else c.k), V.i (if n.v then 0 else c.v), V.i (if n.x then 0 else c.x), V.i c.y]]]) (by cases hb : n.x <;> simp [h2, h3, h5, Con.cells, vTerms, vInts, vIntss, Needs.cells, hb]) ?_
  rintro ⟨sl, hp, bs⟩ ⟨h2, h3, h5, rfl⟩
  refine vc_cut (fun s => gt s.sl 2 = .ptr 0 1 0 0 ∧ gt s.sl 3 = .ptr 1 1 0 0 ∧ gt s.sl 5 = .ptr 2 1 0 0 ∧ s.hp = [.mem false [] [c.cells], .mem false [] [n.cells f], .mem false [] [[V.i (if n.op then 0 else c.op), V.i (if n.k then 0 else c.k), V.i (if n.v then 0 else c.v), V.i (if n.x then 0 else c.x), V.i (if n.y then 0 else c.y)]]]) (by cases hb : n.y <;> simp [h2, h3, h5, Con.cells, vTerms, vInts, vIntss, Needs.cells, hb]) ?_
  rintro ⟨sl, hp, bs⟩ ⟨h2, h3, h5, rfl⟩
  have hf := fieldB_eq c n
  rw [hf]
  generalize (if n.op then 0 else c.op) = o
  generalize (if n.k then 0 else c.k) = k
  generalize (if n.v then 0 else c.v) = v
  generalize (if n.x then 0 else c.x) = x
  generalize (if n.y then 0 else c.y) = y
  generalize hb0 : decide (¬ (o = 0 ∧ k = 0 ∧ v = 0 ∧ x = 0 ∧ y = 0)) = b0
  refine vc_cut (fun s => gt s.sl 4 = .bool (b0 || (!n.terms && decide (0 < c.terms.length)) || (!n.xs && decide (0 < c.xs.length)) || (!n.table && decide (0 < c.table.length)) || (!n.rows && decide (0 < c.rows.length)))) (vc_reg_of ?_) ?_
  · have e : ∀ b0 b : Bool, (b0 || b) = if b0 then true else b := fun b0 b => by cases b0 <;> rfl
    refine vcIts_cut 4 (fun s => gt s.sl 2 = .ptr 0 1 0 0 ∧ gt s.sl 3 = .ptr 1 1 0 0 ∧ gt s.sl 35 = .bool b0 ∧ s.hp = [.mem false [] [c.cells], .mem false [] [n.cells f], .mem false [] [[V.i o, V.i k, V.i v, V.i x, V.i y]]]) ?_ ?_
    · simp [h2, h3, h5, ← hb0]
      rfl
    rintro ⟨sl, hp, bs⟩ ⟨h2, h3, h4, rfl⟩
    refine vcIts_cut 11 (fun s => gt s.sl 2 = .ptr 0 1 0 0 ∧ gt s.sl 3 = .ptr 1 1 0 0 ∧ gt s.sl 46 = .bool (b0 || (!n.terms && decide (0 < c.terms.length))) ∧ s.hp = [.mem false [] [c.cells], .mem false [] [n.cells f], .mem false [] [[V.i o, V.i k, V.i v, V.i x, V.i y]]]) ?_ ?_
    · cases b0 <;> cases hn : n.terms <;> simp [h2, h3, h4, hn, Con.cells, vTerms, vInts, vIntss, Needs.cells]
    generalize (b0 || (!n.terms && decide (0 < c.terms.length))) = b1
    rintro ⟨sl, hp, bs⟩ ⟨h2, h3, h4, rfl⟩
    refine vcIts_cut 11 (fun s => gt s.sl 2 = .ptr 0 1 0 0 ∧ gt s.sl 3 = .ptr 1 1 0 0 ∧ gt s.sl 57 = .bool (b1 || (!n.xs && decide (0 < c.xs.length))) ∧ s.hp = [.mem false [] [c.cells], .mem false [] [n.cells f], .mem false [] [[V.i o, V.i k, V.i v, V.i x, V.i y]]]) ?_ ?_
    · cases b1 <;> cases hn : n.xs <;> simp [h2, h3, h4, hn, Con.cells, vTerms, vInts, vIntss, Needs.cells]
    generalize (b1 || (!n.xs && decide (0 < c.xs.length))) = b2
    rintro ⟨sl, hp, bs⟩ ⟨h2, h3, h4, rfl⟩
    refine vcIts_cut 11 (fun s => gt s.sl 2 = .ptr 0 1 0 0 ∧ gt s.sl 3 = .ptr 1 1 0 0 ∧ gt s.sl 68 = .bool (b2 || (!n.table && decide (0 < c.table.length))) ∧ s.hp = [.mem false [] [c.cells], .mem false [] [n.cells f], .mem false [] [[V.i o, V.i k, V.i v, V.i x, V.i y]]]) ?_ ?_
    · cases b2 <;> cases hn : n.table <;> simp [h2, h3, h4, hn, Con.cells, vTerms, vInts, vIntss, Needs.cells]
    generalize (b2 || (!n.table && decide (0 < c.table.length))) = b3
    rintro ⟨sl, hp, bs⟩ ⟨h2, h3, h4, rfl⟩
    cases b3 <;> cases hn : n.rows <;> simp [h2, h3, h4, hn, Con.cells, vTerms, vInts, vIntss, Needs.cells]
  · rintro ⟨sl, hp, bs⟩ h4
    simp [h4, model_field.rs]
end Go.Abs.G



namespace Go.Abs.G
open Go.Proofs
attribute [local simp] I.vc sub merge place
set_option linter.unusedVariables false

def kindTab : List (Int × Needs × FuncId) := [
  (1, ⟨true, false, false, false, false, false, true, true, false⟩, model_lin.id),
  (2, ⟨false, false, false, false, true, true, true, false, false⟩, model_kinds_1.id),
  (3, ⟨false, true, false, false, false, false, false, false, false⟩, model_allDiff.id),
  (4, ⟨false, false, true, false, true, true, false, false, false⟩, model_element.id),
  (5, ⟨false, true, false, false, false, true, false, false, false⟩, model_kinds_2.id),
  (6, ⟨false, true, false, false, false, true, false, false, false⟩, model_kinds_3.id),
  (7, ⟨true, false, false, false, true, false, true, false, false⟩, model_reif.id),
  (8, ⟨false, true, false, true, false, false, false, false, false⟩, model_table.id),
  (9, ⟨false, true, false, false, false, false, true, true, true⟩, model_count.id)]
def kindEnts : List (V × V) := kindTab.map fun e => (V.i e.1, .agg (e.2.1.cells e.2.2))
def kindsV : V := .mview kindEnts

theorem kindEnts_key : ∀ e ∈ kindEnts, e.1.isKey .i64 = true := by
  intro e he
  obtain ⟨t, _, rfl⟩ := List.mem_map.1 he
  rfl

theorem kindEnts_get (k : Int) : (needs k = none ∧ getE kindEnts k = none) ∨ ∃ n f, needs k = some n ∧ (k, n, f) ∈ kindTab ∧ getE kindEnts k = some (.agg (n.cells f)) := by
  by_cases h1 : k = 1
  · subst h1; exact .inr ⟨_, _, rfl, by simp [kindTab], rfl⟩
  by_cases h2 : k = 2
  · subst h2; exact .inr ⟨_, _, rfl, by simp [kindTab], rfl⟩
  by_cases h3 : k = 3
  · subst h3; exact .inr ⟨_, _, rfl, by simp [kindTab], rfl⟩
  by_cases h4 : k = 4
  · subst h4; exact .inr ⟨_, _, rfl, by simp [kindTab], rfl⟩
  by_cases h5 : k = 5
  · subst h5; exact .inr ⟨_, _, rfl, by simp [kindTab], rfl⟩
  by_cases h6 : k = 6
  · subst h6; exact .inr ⟨_, _, rfl, by simp [kindTab], rfl⟩
  by_cases h7 : k = 7
  · subst h7; exact .inr ⟨_, _, rfl, by simp [kindTab], rfl⟩
  by_cases h8 : k = 8
  · subst h8; exact .inr ⟨_, _, rfl, by simp [kindTab], rfl⟩
  by_cases h9 : k = 9
  · subst h9; exact .inr ⟨_, _, rfl, by simp [kindTab], rfl⟩
  · refine .inl ⟨by simp [needs, *], ?_⟩
    simp [kindEnts, kindTab, getE]
    omega

theorem kinds_spec : Pf Tryz.prog model_kinds.id [] kindsV := by
  refine DC.of model_kinds.ok (by simp) ?_
  simp [model_kinds.ir, model_kinds.rs, kindsV, kindEnts, kindTab, Needs.cells, V.isKey]

theorem con1_spec (x vars : Int) : Pf Tryz.prog model_con_1.id [V.i x, .ref [V.i vars] 0] (.bool (noB vars x)) := by
  refine DC.of model_con_1.ok (by simp) ?_
  by_cases h : x < 0 <;> simp [model_con_1.ir, model_con_1.rs, noB, h]

def zeroNeeds : List V := [.bool false, .bool false, .bool false, .bool false, .bool false, .bool false, .bool false, .bool false, .bool false, .a .nilFunc]

theorem con_look (c : Con) (vars : Int) : vc Tryz.prog (.reg 1 [.o 1 (.lt (some 12) (.fad (.tmp 2) 0)),
    .o 2 (.lt (some 13) (.ld false 1 (.tmp 12))),
    .o 0 (.call (some 11) model_kinds.id []),
    .o 3 (.lt (some 14) (.lkp true .i64 (.agg [.a (.bool false), .a (.bool false), .a (.bool false), .a (.bool false), .a (.bool false), .a (.bool false), .a (.bool false), .a (.bool false), .a (.bool false), .a (.nilFunc)]) (.tmp 11) (.tmp 13))),
    .o 4 (.lt (some 10) (.mov (.tmp 14))),
    .o 5 (.lt (some 15) (.ext (.tmp 10) 0)),
    .o 6 (.lt (some 16) (.ext (.tmp 10) 1)),
    .o 7 (.alloc (some 5) 0 10 [.a (.bool false), .a (.bool false), .a (.bool false), .a (.bool false), .a (.bool false), .a (.bool false), .a (.bool false), .a (.bool false), .a (.bool false), .a (.nilFunc)]),
    .o 8 (.store [] 10 (.tmp 5) (.tmp 15)),
    .o 9 (.lt (some 6) (.mov (.tmp 16))),
    .g (.keep [2, 3, 5, 6])]) (fun e s => match e with
      | .norm => gt s.sl 2 = .ptr 0 1 0 0 ∧ gt s.sl 3 = .ptr 1 1 0 0 ∧ gt s.sl 5 = .ptr 2 1 0 0 ∧ ((needs c.kind = none ∧ gt s.sl 6 = .bool false ∧ s.hp = [.mem false [] [c.cells], .mem false [] [[V.i vars]], .mem false [] [zeroNeeds]]) ∨
          ∃ n f, needs c.kind = some n ∧ gt s.sl 6 = .bool true ∧ s.hp = [.mem false [] [c.cells], .mem false [] [[V.i vars]], .mem false [] [n.cells f]])
      | _ => False) ⟨up (up e0 3 (.ptr 1 1 0 0)) 2 (.ptr 0 1 0 0), [.mem false [] [c.cells], .mem false [] [[V.i vars]]], 0⟩ := by
  simp [Con.cells, vTerms, vInts, vIntss]
  refine kinds_spec.use ?_
  have hk := kindEnts_key
  rcases kindEnts_get c.kind with ⟨h1, h2⟩ | ⟨n, f, h1, h2, h3⟩
  · simp [kindsV, h1, h2, zeroNeeds]
    exact ⟨fun a b h => hk _ h, rfl⟩
  · simp [kindsV, h1, h3, Needs.cells]
    exact ⟨fun a b h => hk _ h, rfl⟩

def conSt (c : Con) (vars : Int) (n : Needs) (f : FuncId) (s : St) : Prop :=
  gt s.sl 2 = .ptr 0 1 0 0 ∧ gt s.sl 3 = .ptr 1 1 0 0 ∧ gt s.sl 5 = .ptr 2 1 0 0 ∧ s.hp = [.mem false [] [c.cells], .mem false [] [[V.i vars]], .mem false [] [n.cells f]]

def conSt2 (c : Con) (vars : Int) (n : Needs) (f : FuncId) (s : St) : Prop :=
  gt s.sl 2 = .ptr 0 1 0 0 ∧ gt s.sl 5 = .ptr 2 1 0 0 ∧ gt s.sl 7 = .bool (badVarB vars c.terms) ∧ gt s.sl 8 = .bool (badCoefB c.terms) ∧ gt s.sl 9 = .fn (.func model_con_1.id) [] [.ptr 1 1 0 0] ∧
    s.hp = [.mem false [] [c.cells], .mem false [] [[V.i vars]], .mem false [] [n.cells f]]

theorem con_spec (c : Con) (vars : Int) (hc : okCon c) : Pf Tryz.prog model_con.id [.agg c.cells, V.i vars] (V.i (conB c vars)) := by
  have hm : (maxLen : Int) ≤ 9223372036854775807 := by decide
  obtain ⟨_, _, ⟨k3, _⟩, _, _, _, _, ⟨k8, k8'⟩, ⟨k9, k9'⟩, k10, k11⟩ := hc
  refine DC.of model_con.ok (by simp) ?_
  unfold model_con.ir
  refine vc_cut (fun s => s = ⟨up (up e0 3 (.ptr 1 1 0 0)) 2 (.ptr 0 1 0 0), [.mem false [] [c.cells], .mem false [] [[V.i vars]]], 0⟩) (by simp [Con.cells, vTerms, vInts, vIntss]) ?_
  rintro _ rfl
  refine vc_cut _ (vc_mono (fun e s hs => by cases e <;> first | exact hs | exact hs.elim) (con_look c vars)) ?_
  rintro ⟨sl, hp, bs⟩ ⟨h2, h3, h5, ⟨hn, h6, rfl⟩ | ⟨n, f, hn, h6, rfl⟩⟩
  · simp [h2, h3, h5, h6, hn, conB, model_con.rs]
  have hcB : conB c vars = conN c vars n := by simp [conB, hn]
  rw [hcB]
  -- the operator
  refine vc_cut (fun s => conSt c vars n f s ∧ (n.op && (decide (c.op < 1) || decide (3 < c.op))) = false) ?_ ?_
  · cases ho : n.op
    · simp [h2, h3, h5, h6, conSt, Needs.cells, ho, Con.cells, vTerms, vInts, vIntss]
    · by_cases h1 : c.op < 1
      · simp [h2, h3, h5, h6, conSt, Needs.cells, ho, Con.cells, vTerms, vInts, vIntss, h1, conN, model_con.rs]
      · by_cases h1' : 3 < c.op <;> simp [h2, h3, h5, h6, conSt, Needs.cells, ho, Con.cells, vTerms, vInts, vIntss, h1, h1', conN, model_con.rs] <;> omega
  rintro ⟨sl, hp, bs⟩ ⟨⟨h2, h3, h5, rfl⟩, b1⟩
  refine vc_cut (fun s => conSt c vars n f s ∧ gt s.sl 7 = .bool (badVarB vars c.terms) ∧ gt s.sl 8 = .bool (badCoefB c.terms)) ?_ ?_
  · simp [h2, h3, h5, Con.cells, vTerms, vInts, vIntss]
    refine (terms_spec c.terms vars k3).use ?_
    simp [conSt, Con.cells, vTerms, vInts, vIntss]
  rintro ⟨sl, hp, bs⟩ ⟨⟨h2, h3, h5, rfl⟩, h7, h8⟩
  refine vc_cut (fun s => conSt2 c vars n f s) ?_ ?_
  · simp [h2, h3, h5, h7, h8, conSt2]
  rintro ⟨sl, hp, bs⟩ ⟨h2, h5, h7, h8, h9, rfl⟩
  refine vc_cut (fun s => conN c vars n = 0) (vc_block_of ?_) ?_
  · refine vc_cut (fun s => conSt2 c vars n f s ∧ gt s.sl 41 = .bool (fieldB c n)) ?_ ?_
    · simp [h2, h5, Needs.cells, Con.cells, vTerms, vInts, vIntss]
      refine (field_spec c n f).use ?_
      simp [h2, h5, h7, h8, h9, conSt2, Needs.cells, Con.cells, vTerms, vInts, vIntss]
    rintro ⟨sl, hp, bs⟩ ⟨⟨h2, h5, h7, h8, h9, rfl⟩, h41⟩
    cases b2 : fieldB c n
    case true => simp [h41, b2, model_con.rs, conN, b1]
    rw [b2] at h41
    rw [vc_cond_false (show St.ev _ (.tmp 41) = _ from h41)]
    refine vc_cut (fun s => conSt2 c vars n f s ∧ gt s.sl 45 = .bool (!countsB n.terms c.terms.length || !countsB n.xs c.xs.length || !countsB n.table c.table.length || wideB c n)) ?_ ?_
    · simp [h2, h5, h7, h8, h9, Needs.cells, Con.cells, vTerms, vInts, vIntss]
      refine (counts_spec n.terms c.terms.length).use ?_
      cases countsB n.terms c.terms.length
      · simp [conSt2, h2, h5, h7, h8, h9, Needs.cells, Con.cells, vTerms, vInts, vIntss]
      simp [h2, h5, h7, h8, h9, Needs.cells, Con.cells, vTerms, vInts, vIntss]
      refine (counts_spec n.xs c.xs.length).use ?_
      cases countsB n.xs c.xs.length
      · simp [conSt2, h2, h5, h7, h8, h9, Needs.cells, Con.cells, vTerms, vInts, vIntss]
      simp [h2, h5, h7, h8, h9, Needs.cells, Con.cells, vTerms, vInts, vIntss]
      refine (counts_spec n.table c.table.length).use ?_
      cases countsB n.table c.table.length
      · simp [conSt2, h2, h5, h7, h8, h9, Needs.cells, Con.cells, vTerms, vInts, vIntss]
      simp [h2, h5, h7, h8, h9, Needs.cells, Con.cells, vTerms, vInts, vIntss]
      refine (wide_spec c n f k10).use ?_
      simp [conSt2, h2, h5, h7, h8, h9, Needs.cells, Con.cells, vTerms, vInts, vIntss]
    rintro ⟨sl, hp, bs⟩ ⟨⟨h2, h5, h7, h8, h9, rfl⟩, h45⟩
    cases b3 : (!countsB n.terms c.terms.length || !countsB n.xs c.xs.length || !countsB n.table c.table.length || wideB c n)
    case true => rw [b3] at h45; simp [h45, model_con.rs, conN, b1, b2, b3]
    rw [b3] at h45
    rw [vc_cond_false (show St.ev _ (.tmp 45) = _ from h45)]
    refine vc_cut (fun s => gt s.sl 2 = .ptr 0 1 0 0 ∧ gt s.sl 8 = .bool (badCoefB c.terms) ∧ s.hp = [.mem false [] [c.cells], .mem false [] [[V.i vars]], .mem false [] [n.cells f]] ∧
      gt s.sl 70 = .bool (badVarB vars c.terms || (n.x && noB vars c.x) || (n.y && noB vars c.y) || c.xs.any (noB vars))) ?_ ?_
    · cases b0 : badVarB vars c.terms
      case true => rw [b0] at h7; simp [h2, h5, h7, h8, h9, Needs.cells, Con.cells, vTerms, vInts, vIntss]
      rw [b0] at h7
      have last : DP Tryz.prog slices_ContainsFunc_Lint_int.id [vInts c.xs, .fn (.func model_con_1.id) [] [.ref [V.i vars] 0]] fun r => r = .bool (c.xs.any (noB vars)) :=
        contains_int_spec (p := noB vars) (cap := [.ref [V.i vars] 0]) (by simp) (by simp) (fun t _ => con1_spec t vars) k8
      have last' : ∀ Q : V → Prop, Q (.bool (c.xs.any (noB vars))) → DP Tryz.prog slices_ContainsFunc_Lint_int.id [.view 1 (List.map (fun n => [V.i n]) c.xs), .fn (.func model_con_1.id) [] [.ref [V.i vars] 0]] Q := fun Q hq => DP.mono last fun r hr => by rw [hr]; exact hq
      have mid : ∀ b : Bool, (n.y && noB vars c.y) = b → True := fun _ _ => trivial
      cases hx : n.x <;> cases hy : n.y <;> simp [h2, h5, h7, h8, h9, Needs.cells, Con.cells, vTerms, vInts, vIntss, hx, hy]
      · exact last' _ (by simp)
      · refine (con1_spec c.y vars).use ?_
        cases noB vars c.y <;> simp
        exact last' _ (by simp)
      · refine (con1_spec c.x vars).use ?_
        cases noB vars c.x <;> simp
        exact last' _ (by simp)
      · refine (con1_spec c.x vars).use ?_
        cases noB vars c.x <;> simp
        refine (con1_spec c.y vars).use ?_
        cases noB vars c.y <;> simp
        exact last' _ (by simp)
    rintro ⟨sl, hp, bs⟩ ⟨h2, h8, rfl, h70⟩
    cases b4 : (badVarB vars c.terms || (n.x && noB vars c.x) || (n.y && noB vars c.y) || c.xs.any (noB vars))
    case true => rw [b4] at h70; simp [h70, model_con.rs, conN, b1, b2, b3, b4]
    rw [b4] at h70
    rw [vc_cond_false (show St.ev _ (.tmp 70) = _ from h70)]
    refine vc_cut (fun s => gt s.sl 2 = .ptr 0 1 0 0 ∧ gt s.sl 92 = .bool (badCoefB c.terms) ∧ s.hp = [.mem false [] [c.cells], .mem false [] [[V.i vars]], .mem false [] [n.cells f]]) (by simp [h2, h8]) ?_
    rintro ⟨sl, hp, bs⟩ ⟨h2, h92, rfl⟩
    cases b5 : badCoefB c.terms
    case true => simp [h92, model_con.rs, conN, b1, b2, b3, b4, b5]
    rw [b5] at h92
    rw [vc_cond_false (show St.ev _ (.tmp 92) = _ from h92)]
    refine vc_cut (fun s => gt s.sl 94 = .bool (!withinB c.k 1000000000 || !withinB c.v 1000000000 || greatB c.table || c.rows.any greatB)) ?_ ?_
    · simp [h2, Needs.cells, Con.cells, vTerms, vInts, vIntss]
      refine (within_spec c.k 1000000000 (by decide) (by decide)).use ?_
      cases withinB c.k 1000000000
      · simp
      simp [h2, Needs.cells, Con.cells, vTerms, vInts, vIntss]
      refine (within_spec c.v 1000000000 (by decide) (by decide)).use ?_
      cases withinB c.v 1000000000
      · simp
      simp [h2, Needs.cells, Con.cells, vTerms, vInts, vIntss]
      refine (great_spec c.table k9).use ?_
      cases greatB c.table
      case true => simp
      simp [h2, Needs.cells, Con.cells, vTerms, vInts, vIntss]
      refine (contains_ints_spec (by simp) (by simp) (fun t ht => great_spec t (k11 t ht).1) k10).use ?_
      simp
    rintro ⟨sl, hp, bs⟩ h94
    cases b6 : (!withinB c.k 1000000000 || !withinB c.v 1000000000 || greatB c.table || c.rows.any greatB)
    case true => rw [b6] at h94; simp [h94, model_con.rs, conN, b1, b2, b3, b4, b5, b6]
    rw [b6] at h94
    simp [h94, conN, b1, b2, b3, b4, b5, b6]
  · rintro ⟨sl, hp, bs⟩ h0
    simp [h0, model_con.rs]
end Go.Abs.G



namespace Go.Abs.G
open Go.Proofs
attribute [local simp] I.vc sub merge place
set_option linter.unusedVariables false

theorem width_pos (s : ByteArray) (pos : Nat) : 1 ≤ (Utf8.decode s pos).2 := by
  unfold Utf8.decode
  simp only
  repeat' split
  all_goals simp

theorem nameFrom_step (s : ByteArray) (f pos : Nat) (h : pos < s.size) : nameFrom s (f + 1) pos = if !letterB (Utf8.decode s pos).1 && (decide (pos = 0) || decide ((Utf8.decode s pos).1 < 48) || decide (57 < (Utf8.decode s pos).1)) then false else nameFrom s f (pos + (Utf8.decode s pos).2) := by
  rw [nameFrom, if_pos h]

theorem nameFrom_end (s : ByteArray) (f pos : Nat) (h : ¬ pos < s.size) : nameFrom s f pos = true := by
  cases f with
  | zero => rfl
  | succ f => rw [nameFrom, if_neg h]

def sitLeft : Heap → Nat
  | [.sit s pos] => s.size - pos
  | _ => 0
attribute [simp] sitLeft

theorem name_spec (s : ByteArray) (hs : s.size ≤ maxLen) : Pf Tryz.prog model_isName.id [.str s] (.bool (nameB s)) := by
  have hm : (maxLen : Int) ≤ 9223372036854775807 := by decide
  refine DC.of model_isName.ok (by simp) ?_
  simp [model_isName.ir, model_isName.rs]
  refine WI.mono (Q := fun e st => (e = .exit 0 ∧ gt st.sl 0 = .str s ∧ nameFrom s (s.size + 1) 0 = true) ∨ (e = .ret ∧ gt st.sl 2 = .bool false ∧ nameFrom s (s.size + 1) 0 = false)) (WI.loop 1 (by simp) (fun st => ∃ pos f, gt st.sl 0 = .str s ∧ gt st.sl 7 = .ptr 0 0 0 0 ∧ st.hp = [.sit s pos] ∧ s.size < f + pos ∧ nameFrom s (s.size + 1) 0 = nameFrom s f pos) (fun st => sitLeft st.hp) ?_ ?_) ?_
  · exact ⟨0, s.size + 1, by simp⟩
  · rintro ⟨sl, hp, bs⟩ ⟨pos, f, h0, h7, rfl, hf, he⟩
    by_cases hp : pos < s.size
    · obtain ⟨f, rfl⟩ : ∃ g, f = g + 1 := ⟨f - 1, by omega⟩
      have hw := width_pos s pos
      rw [nameFrom_step s f pos hp] at he
      have hnm : pos = 0 ∨ 0 < pos := by omega
      generalize hd : Utf8.decode s pos = d at he hw
      obtain ⟨r, wd⟩ := d
      simp only at he hw
      unfold model_isName.b0
      refine vc_cut (fun st => gt st.sl 0 = .str s ∧ gt st.sl 7 = .ptr 0 0 0 0 ∧ gt st.sl 8 = .tup [.bool true, V.i pos, .int .i32 r] ∧ gt st.sl 9 = .bool true ∧ st.hp = [.sit s (pos + wd)]) (by simp [h0, h7, hp, hd]) ?_
      rintro ⟨sl, _, bs⟩ ⟨h0, h7, h8, h9, rfl⟩
      refine vc_cut (fun st => gt st.sl 0 = .str s ∧ gt st.sl 7 = .ptr 0 0 0 0 ∧ gt st.sl 8 = .tup [.bool true, V.i pos, .int .i32 r] ∧ st.hp = [.sit s (pos + wd)]) (by simp [h0, h7, h8, h9]) ?_
      rintro ⟨sl, _, bs⟩ ⟨h0, h7, h8, rfl⟩
      refine vc_block_of (vc_cut (fun st => gt st.sl 0 = .str s ∧ gt st.sl 7 = .ptr 0 0 0 0 ∧ gt st.sl 3 = V.i pos ∧ gt st.sl 4 = .int .i32 r ∧ st.hp = [.sit s (pos + wd)]) (by simp [h0, h7, h8]) ?_)
      rintro ⟨sl, _, bs⟩ ⟨h0, h7, h3, h4, rfl⟩
      refine vc_cut (fun st => gt st.sl 0 = .str s ∧ gt st.sl 7 = .ptr 0 0 0 0 ∧ gt st.sl 3 = V.i pos ∧ gt st.sl 4 = .int .i32 r ∧ gt st.sl 5 = .bool (letterB r) ∧ st.hp = [.sit s (pos + wd)]) ?_ ?_
      · unfold letterB
        have i1 : ((97 : Int) ≤ (r : Int)) = (97 ≤ r) := by apply propext; omega
        have i2 : ((r : Int) ≤ 122) = (r ≤ 122) := by apply propext; omega
        have i3 : ((65 : Int) ≤ (r : Int)) = (65 ≤ r) := by apply propext; omega
        have i4 : ((r : Int) ≤ 90) = (r ≤ 90) := by apply propext; omega
        have i5 : ((r : Int) == 95) = decide (r = 95) := by rw [Bool.eq_iff_iff]; simp; omega
        by_cases a1 : 97 ≤ r <;> by_cases a2 : r ≤ 122 <;> by_cases a3 : 65 ≤ r <;> by_cases a4 : r ≤ 90 <;> first | (exfalso; omega) | simp [h0, h7, h3, h4, i1, i2, i3, i4, i5, a1, a2, a3, a4]
      rintro ⟨sl, _, bs⟩ ⟨h0, h7, h3, h4, h5, rfl⟩
      refine vc_cut (fun st => gt st.sl 0 = .str s ∧ gt st.sl 7 = .ptr 0 0 0 0 ∧ gt st.sl 43 = .bool (!letterB r && (decide (pos = 0) || decide (r < 48) || decide (57 < r))) ∧ st.hp = [.sit s (pos + wd)]) ?_ ?_
      · have i1 : ((r : Int) < 48) = (r < 48) := by apply propext; omega
        have i2 : ((57 : Int) < (r : Int)) = (57 < r) := by apply propext; omega
        have i3 : ((pos : Int) = 0) = (pos = 0) := by apply propext; omega
        cases hl : letterB r <;> rw [hl] at h5 <;> by_cases a1 : pos = 0 <;> by_cases a2 : r < 48 <;> simp [h0, h7, h3, h4, h5, i1, i2, i3, a1, a2]
      rintro ⟨sl, _, bs⟩ ⟨h0, h7, h43, rfl⟩
      cases hb : (!letterB r && (decide (pos = 0) || decide (r < 48) || decide (57 < r)))
      · rw [hb] at h43 he
        simp [h0, h7, h43]
        exact ⟨⟨f, by omega, by simpa using he⟩, by omega⟩
      · rw [hb] at h43 he
        simp [h0, h7, h43]
        simpa using he
    · rw [nameFrom_end s f pos hp] at he
      simp [model_isName.b0, h0, h7, hp, he]
  · rintro e ⟨sl, hp, bs⟩ (⟨rfl, h0, he⟩ | ⟨rfl, h2, he⟩)
    · by_cases h1 : 1 ≤ s.size
      · have h1' : (1 : Int) ≤ s.size := by omega
        simp [h0, nameB, he, h1, h1']
        omega
      · have h1' : ¬ (1 : Int) ≤ s.size := by omega
        simp [h0, nameB, he, h1, h1']
    · simp [h2, nameB, he]

theorem goal_spec (m : Model) (hl : m.goal.length ≤ maxLen) : Pf Tryz.prog model_goal.id [.agg m.cells] (V.i (goalB m)) := by
  refine DC.of model_goal.ok (by simp) ?_
  simp [model_goal.ir, model_goal.rs, Model.cells, vVars, vCons, vTerms]
  refine (terms_spec m.goal m.vars.length hl).use ?_
  simp
  by_cases h0 : m.goal = []
  · cases hg : m.hasGoal
    · simp [h0, goalB, hg]
      refine (counts_spec false 0).use ?_
      cases countsB false 0 <;> simp
      simp [badVarB, badCoefB]
    · simp [h0, goalB, hg]
      refine (counts_spec true 0).use ?_
      cases hc : countsB true 0 <;> simp
      all_goals (simp [countsB] at hc)
  · have h1 : 0 < m.goal.length := List.length_pos_iff.2 h0
    have h0' : (0 : Int) < m.goal.length := by omega
    cases hg : m.hasGoal
    · simp [h0, goalB, hg]
    · simp [h0, goalB, hg]
      refine (counts_spec true m.goal.length).use ?_
      cases countsB true m.goal.length <;> simp
      cases badVarB m.vars.length m.goal <;> simp

theorem variable_spec (l : List Var) (i : Nat) (h : i < l.length) (hl : l.length ≤ maxLen) (hv : okVar l[i]) : Pf Tryz.prog model_variable.id [vVars l, V.i i] (V.i (varB l i l[i])) := by
  have hm : (maxLen : Int) ≤ 9223372036854775807 := by decide
  refine DC.of model_variable.ok (by simp) ?_
  unfold model_variable.ir
  refine vc_cut (fun s => gt s.sl 0 = vVars l ∧ gt s.sl 1 = V.i i ∧ s.hp = []) (by simp) ?_
  rintro ⟨sl, hp, bs⟩ ⟨h0, h1, rfl⟩
  refine vc_cut (fun s => gt s.sl 0 = vVars l ∧ gt s.sl 1 = V.i i ∧ gt s.sl 5 = .ptr 0 1 0 0 ∧ s.hp = [.mem false [] [l[i].cells]]) (by simp [h0, h1, vVars, h, Var.cells]) ?_
  rintro ⟨sl, hp, bs⟩ ⟨h0, h1, h5, rfl⟩
  generalize hv' : l[i] = v at *
  obtain ⟨hv1, _, _⟩ := hv
  have hi : (i : Int) ≤ l.length := by omega
  have htk : List.take i (List.map Var.cells l) = List.map Var.cells (l.take i) := List.map_take.symm
  refine vc_cut (fun s => gt s.sl 5 = .ptr 0 1 0 0 ∧ s.hp = [.mem false [] [v.cells]] ∧ nameB v.name = true ∧ ((l.take i).any fun w => decide (w.name = v.name)) = false) ?_ ?_
  · simp [h0, h1, h5, Var.cells]
    refine (name_spec v.name hv1).use ?_
    cases hn : nameB v.name
    · simp [varB, hn, model_variable.rs]
    simp [h0, h1, h5, Var.cells, vVars, hi]
    rw [htk]
    refine DP.mono (contains_var_spec (p := fun w => decide (w.name = v.name)) (cap := [.ref v.cells 0]) (l := l.take i) (by simp) (by simp) (fun t _ => variable1_spec t v) (by simp; omega)) fun r hr => ?_
    subst hr
    cases ha : ((l.take i).any fun w => decide (w.name = v.name))
    · simp [ha, Var.cells]
      simpa using ha
    · simp [varB, hn, ha, model_variable.rs]
  rintro ⟨sl, hp, bs⟩ ⟨h5, rfl, b1, b2⟩
  have hb : varB l i v = if !withinB v.lo 1000000000 || !withinB v.hi 1000000000 || decide (v.hi < v.lo) || decide (64 ≤ v.hi - v.lo) then 42 else 0 := by
    unfold varB; rw [b1, b2]; rfl
  rw [hb]
  refine vc_cut (fun s => (!withinB v.lo 1000000000 || !withinB v.hi 1000000000 || decide (v.hi < v.lo) || decide (64 ≤ v.hi - v.lo)) = false) ?_ ?_
  · simp [h5, Var.cells]
    refine (within_spec v.lo 1000000000 (by decide) (by decide)).use ?_
    cases w1 : withinB v.lo 1000000000
    · simp [model_variable.rs]
    simp [h5, Var.cells]
    refine (within_spec v.hi 1000000000 (by decide) (by decide)).use ?_
    cases w2 : withinB v.hi 1000000000
    · simp [model_variable.rs]
    unfold withinB at w1 w2
    simp at w1 w2
    have hw : IntKind.i64.wrap (v.hi - v.lo) = v.hi - v.lo := by rw [wrap64] <;> omega
    by_cases hlt : v.hi < v.lo
    · simp [hlt, Int.not_le.2 hlt, model_variable.rs, Var.cells]
    · by_cases hge : 64 ≤ v.hi - v.lo <;> simp [hlt, hw, hge, model_variable.rs, Var.cells] <;> omega
  · rintro ⟨sl, hp, bs⟩ hb
    rw [hb]
    simp [model_variable.rs]
end Go.Abs.G



namespace Go.Abs.G
open Go.Proofs
attribute [local simp] I.vc sub merge place
set_option linter.unusedVariables false
set_option linter.unusedSimpArgs false

theorem firstBad_drop {α : Type} (f : Nat → α → Int) {l : List α} {i : Nat} (h : i < l.length) : firstBad f i (l.drop i) = if f i l[i] = 0 then firstBad f (i + 1) (l.drop (i + 1)) else some (i, f i l[i]) := by
  rw [List.drop_eq_getElem_cons h]; rfl

theorem check_spec (m : Model) (hm' : okModel m) : Pf Tryz.prog model_Check.id [.agg m.cells] (.tup [V.i (checkB m).1, V.i (checkB m).2]) := by
  have hm : (maxLen : Int) ≤ 9223372036854775807 := by decide
  obtain ⟨⟨hv, hv'⟩, ⟨hc, hc'⟩, hg, _⟩ := hm'
  refine DC.of model_Check.ok (by simp) ?_
  unfold model_Check.ir
  refine vc_cut (fun s => gt s.sl 1 = .ptr 0 1 0 0 ∧ s.hp = [.mem false [] [m.cells]]) (by simp [Model.cells, vVars, vCons, vTerms]) ?_
  rintro ⟨sl, hp, bs⟩ ⟨h1, rfl⟩
  refine vc_cut (fun s => gt s.sl 1 = .ptr 0 1 0 0 ∧ s.hp = [.mem false [] [m.cells]] ∧ ¬ (m.vars.length = 0 ∨ 32 < m.vars.length)) ?_ ?_
  · by_cases l0 : m.vars = []
    · simp [h1, Model.cells, vVars, vCons, vTerms, l0, checkB, model_Check.rs]
    · have l0' : ¬ m.vars.length = 0 := by simpa using l0
      have l0'' : ¬ (m.vars.length : Int) = 0 := by omega
      by_cases l1 : 32 < m.vars.length
      · have l1' : (32 : Int) < m.vars.length := by omega
        simp [h1, Model.cells, vVars, vCons, vTerms, l0, l1, l1', checkB, model_Check.rs]
      · have l1' : ¬ (32 : Int) < m.vars.length := by omega
        simp [h1, Model.cells, vVars, vCons, vTerms, l0, l1, l1']
  rintro ⟨sl, hp, bs⟩ ⟨h1, rfl, hn⟩
  refine vc_cut (fun s => gt s.sl 1 = .ptr 0 1 0 0 ∧ s.hp = [.mem false [] [m.cells]] ∧ firstBad (varB m.vars) 0 m.vars = none) ?_ ?_
  · simp [h1, Model.cells, vVars, vCons, vTerms]
    refine WI.mono (Q := fun e s => (e = .exit 0 ∧ gt s.sl 1 = .ptr 0 1 0 0 ∧ s.hp = [.mem false [] [m.cells]] ∧ firstBad (varB m.vars) 0 m.vars = none) ∨ (e = .ret ∧ ∃ (i : Nat) (r : Int), firstBad (varB m.vars) 0 m.vars = some (i, r) ∧ gt s.sl 2 = V.i i ∧ gt s.sl 3 = V.i r)) (WI.loop 1 (by simp) (fun s => ∃ i, i ≤ m.vars.length ∧ gt s.sl 1 = .ptr 0 1 0 0 ∧ gt s.sl 22 = V.i m.vars.length ∧ gt s.sl 23 = V.i i ∧ s.hp = [.mem false [] [m.cells]] ∧ firstBad (varB m.vars) 0 m.vars = firstBad (varB m.vars) i (m.vars.drop i)) (fun s => (m.vars.length - (gt s.sl 23).num).toNat) ?_ ?_) ?_
    · exact ⟨0, by simp [h1, Model.cells, vVars, vCons, vTerms]⟩
    · rintro ⟨sl, hp, bs⟩ ⟨i, hi, h1, h22, h23, rfl, he⟩
      by_cases hil : i < m.vars.length
      · simp [model_Check.b0, h1, h22, h23, hil, Model.cells, vVars, vCons, vTerms]
        refine (variable_spec m.vars i hil hv (hv' _ (List.getElem_mem hil))).use ?_
        rw [firstBad_drop _ hil] at he
        have hw : IntKind.i64.wrap ((i : Int) + 1) = ((i + 1 : Nat) : Int) := by rw [wrap64] <;> omega
        by_cases hb : varB m.vars i m.vars[i] = 0
        · rw [if_pos hb] at he
          simp [hb, hw, Model.cells, vVars, vCons, vTerms]
          exact ⟨⟨i + 1, by omega, by omega, he⟩, by omega⟩
        · rw [if_neg hb] at he
          simp [hb, he]
      · obtain rfl : i = m.vars.length := by omega
        rw [List.drop_length] at he
        simp [model_Check.b0, h1, h22, h23, he, firstBad]
    · rintro e ⟨sl, hp, bs⟩ (⟨rfl, h1, rfl, he⟩ | ⟨rfl, i, r, he, h2, h3⟩)
      · simp [h1, he, Model.cells, vVars, vCons, vTerms]
      · have hC : checkB m = ((i : Int), r) := by unfold checkB; rw [if_neg hn, he]
        simp [h2, h3, hC, model_Check.rs]
  rintro ⟨sl, hp, bs⟩ ⟨h1, rfl, he1⟩
  refine vc_cut (fun s => gt s.sl 1 = .ptr 0 1 0 0 ∧ s.hp = [.mem false [] [m.cells]] ∧ ¬ 64 < m.cons.length) ?_ ?_
  · by_cases l1 : 64 < m.cons.length
    · have l1' : (64 : Int) < m.cons.length := by omega
      have hC : checkB m = ((m.vars.length : Int), 49) := by unfold checkB; rw [if_neg hn, he1]; simp only; rw [if_pos l1]
      simp [h1, Model.cells, vVars, vCons, vTerms, l1', hC, model_Check.rs]
    · have l1' : ¬ (64 : Int) < m.cons.length := by omega
      simp [h1, Model.cells, vVars, vCons, vTerms, l1, l1']
  rintro ⟨sl, hp, bs⟩ ⟨h1, rfl, hn2⟩
  refine vc_cut (fun s => gt s.sl 1 = .ptr 0 1 0 0 ∧ s.hp = [.mem false [] [m.cells]] ∧ firstBad (fun _ c => conB c m.vars.length) 0 m.cons = none) ?_ ?_
  · simp [h1, Model.cells, vVars, vCons, vTerms]
    refine WI.mono (Q := fun e s => (e = .exit 2 ∧ gt s.sl 1 = .ptr 0 1 0 0 ∧ s.hp = [.mem false [] [m.cells]] ∧ firstBad (fun _ c => conB c m.vars.length) 0 m.cons = none) ∨ (e = .ret ∧ ∃ (i : Nat) (r : Int), firstBad (fun _ c => conB c m.vars.length) 0 m.cons = some (i, r) ∧ gt s.sl 2 = V.i (m.vars.length + i) ∧ gt s.sl 3 = V.i r)) (WI.loop 1 (by simp) (fun s => ∃ i, i ≤ m.cons.length ∧ gt s.sl 1 = .ptr 0 1 0 0 ∧ gt s.sl 43 = vCons m.cons ∧ gt s.sl 44 = V.i m.cons.length ∧ gt s.sl 45 = V.i i ∧ s.hp = [.mem false [] [m.cells]] ∧ firstBad (fun _ c => conB c m.vars.length) 0 m.cons = firstBad (fun _ c => conB c m.vars.length) i (m.cons.drop i)) (fun s => (m.cons.length - (gt s.sl 45).num).toNat) ?_ ?_) ?_
    · exact ⟨0, by simp [h1, Model.cells, vVars, vCons, vTerms]⟩
    · rintro ⟨sl, hp, bs⟩ ⟨i, hi, h1, h43, h22, h23, rfl, he⟩
      by_cases hil : i < m.cons.length
      · simp [model_Check.b1, h1, h43, h22, h23, hil, Model.cells, vVars, vCons, vTerms, Con.cells, vInts, vIntss]
        refine (con_spec m.cons[i] m.vars.length (hc' _ (List.getElem_mem hil))).use ?_
        rw [firstBad_drop _ hil] at he
        have hw : IntKind.i64.wrap ((i : Int) + 1) = ((i + 1 : Nat) : Int) := by rw [wrap64] <;> omega
        have hw2 : IntKind.i64.wrap ((m.vars.length : Int) + i) = m.vars.length + i := by rw [wrap64] <;> omega
        by_cases hb : conB m.cons[i] m.vars.length = 0
        · rw [if_pos hb] at he
          simp [hb, hw, Model.cells, vVars, vCons, vTerms]
          exact ⟨⟨i + 1, by omega, by omega, he⟩, by omega⟩
        · rw [if_neg hb] at he
          simp [hb, he, hw2]
      · obtain rfl : i = m.cons.length := by omega
        rw [List.drop_length] at he
        simp [model_Check.b1, h1, h22, h23, he, firstBad]
    · rintro e ⟨sl, hp, bs⟩ (⟨rfl, h1, rfl, he⟩ | ⟨rfl, i, r, he, h2, h3⟩)
      · simp [h1, he, Model.cells, vVars, vCons, vTerms]
      · have hC : checkB m = ((m.vars.length : Int) + i, r) := by unfold checkB; rw [if_neg hn, he1]; simp only; rw [if_neg hn2, he]
        simp [h2, h3, hC, model_Check.rs]
  rintro ⟨sl, hp, bs⟩ ⟨h1, rfl, he2⟩
  simp [h1, Model.cells, vVars, vCons, vTerms]
  refine (goal_spec m hg).use ?_
  have hw2 : IntKind.i64.wrap ((m.vars.length : Int) + m.cons.length) = m.vars.length + m.cons.length := by rw [wrap64] <;> omega
  by_cases hb : goalB m = 0
  · have hC : checkB m = (0, 0) := by unfold checkB; rw [if_neg hn, he1]; simp only; rw [if_neg hn2, he2]; simp [hb]
    simp [hb, hC, model_Check.rs]
  · have hC : checkB m = ((m.vars.length : Int) + m.cons.length, goalB m) := by unfold checkB; rw [if_neg hn, he1]; simp only; rw [if_neg hn2, he2]; simp [hb]
    simp [hb, hC, hw2, model_Check.rs]

end Go.Abs.G



namespace Go.Abs.G
open Go.Proofs
set_option linter.unusedVariables false
set_option linter.unusedSimpArgs false
attribute [local simp] I.vc sub merge place

def Dom.add (d : Dom) (k : Nat) : Dom := if k < 32 then { d with a := sett d.a k } else { d with b := sett d.b (k - 32) }
def fillTo (d : Dom) : Nat → Dom
  | 0 => d
  | n + 1 => (fillTo d n).add n
theorem add_width (d : Dom) (k : Nat) : (d.add k).width = d.width := by unfold Dom.add; split <;> rfl
theorem add_ok {d : Dom} (k : Nat) (h : d.ok) : (d.add k).ok := by
  unfold Dom.add; split
  · exact ⟨h.f, h.w, sett_lt _ _, h.b⟩
  · exact ⟨h.f, h.w, h.a, sett_lt _ _⟩
theorem fillTo_ok {d : Dom} (h : d.ok) : ∀ n, (fillTo d n).ok
  | 0 => h
  | n + 1 => add_ok _ (fillTo_ok h n)
theorem fillTo_width (d : Dom) : ∀ n, (fillTo d n).width = d.width
  | 0 => rfl
  | n + 1 => by simp [fillTo, add_width, fillTo_width d n]
def dom0 (v : Var) : Dom := ⟨v.lo, (v.hi - v.lo + 1).toNat, 0, 0⟩
def domOf (v : Var) : Dom := fillTo (dom0 v) (dom0 v).width
theorem dom0_ok {v : Var} (h : VarOk v) : (dom0 v).ok := by
  obtain ⟨h1, h2, h3, h4⟩ := h
  exact ⟨by simp [dom0]; omega, by simp [dom0]; omega, by simp [dom0], by simp [dom0]⟩
theorem add_row (d : Dom) (k : Nat) (hk : k < 64) : (if k < 32 then [V.i d.from', V.i d.width, V.w (sett d.a k), V.w d.b] else [V.i d.from', V.i d.width, V.w d.a, V.w (sett d.b (k - 32))]) = (d.add k).row := by
  unfold Dom.add; split <;> rfl

def newH (B : O) (s : List Dom) : Heap := [B, .mem false [2, 3] [[.own 2 4 0 s.length s.length, .own 3 1 0 0 0]], .mem false [] (s.map Dom.row), .tree [] []]
def domsOf (m : Model) : List Dom := if (checkB m).2 = 0 then m.vars.map domOf else []

@[simp] theorem vVars_ids (l : List Var) : (vVars l).ids = [] := rfl
@[simp] theorem lim_vVars (n : Nat) (l : List Var) : lim n (vVars l) = vVars l := rfl

theorem new_spec (m : Model) (hm : okModel m) : DC Tryz.prog dom_New.id [.agg m.cells] [] (fun r H => r = .ptr 1 1 0 0 ∧ ∃ B, H = newH B (domsOf m)) := by
  refine DC.trim (Q := fun r H => r = .ptr 1 1 0 0 ∧ ∃ E, H = newH (.mem false [] [m.cells]) (domsOf m) ++ E) ?_ ?_
  rotate_left
  · rintro r H ⟨rfl, E, rfl⟩
    exact ⟨4, by simp, by simp [V.ids], rfl, .mem false [] [m.cells], rfl⟩
  have hc := check_spec m hm
  refine DC.of dom_New.ok (by simp) ?_
  unfold dom_New.ir
  refine vc_cut (fun st => gt st.sl 1 = .ptr 0 1 0 0 ∧ st.hp = [.mem false [] [m.cells]]) (by simp [Model.cells, vVars, vCons, vTerms]) ?_
  rintro ⟨sl, hp, bs⟩ ⟨h1, rfl⟩
  refine vc_cut (fun st => gt st.sl 1 = .ptr 0 1 0 0 ∧ gt st.sl 3 = .ptr 1 1 0 0 ∧ st.hp = [.mem false [] [m.cells], .mem false [] [[nilS, nilS]]]) (by simp [h1]) ?_
  clear h1
  rintro ⟨sl, hp, bs⟩ ⟨h1, h3, rfl⟩
  refine vc_cut (fun st => (checkB m).2 = 0 ∧ gt st.sl 1 = .ptr 0 1 0 0 ∧ gt st.sl 3 = .ptr 1 1 0 0 ∧ st.hp = [.mem false [] [m.cells], .mem false [] [[nilS, nilS]]]) ?_ ?_
  · have hcl : m.cells.length = 4 := rfl
    have htk : m.cells.take 4 = m.cells := rfl
    simp [h1, h3, hcl, htk]
    refine ⟨rfl, hc.use ?_⟩
    by_cases hz : (checkB m).2 = 0
    · simp [hz]
    · simp [hz]
      refine ⟨_, Weak.nil2 (id := 1) (e1 := 4) (e2 := 1) (t := 3) rfl (by simp), ?_⟩
      simp [dom_New.rs, newH, domsOf, hz]
      skip
  clear h1 h3
  rintro ⟨sl, hp, bs⟩ ⟨hz, h1, h3, rfl⟩
  have hR : Right m := right_iff.1 (by simp [rightB, hz])
  have hD : domsOf m = m.vars.map domOf := by simp [domsOf, hz]
  rw [hD]
  refine vc_cut (fun st => gt st.sl 3 = .ptr 1 1 0 0 ∧ st.hp = newH (.mem false [] [m.cells]) (m.vars.map domOf)) ?_ ?_
  · refine vc_cut (fun st => gt st.sl 3 = .ptr 1 1 0 0 ∧ gt st.sl 21 = vVars m.vars ∧ gt st.sl 22 = V.i m.vars.length ∧ gt st.sl 23 = V.i 0 ∧ st.hp = newH (.mem false [] [m.cells]) []) ?_ ?_
    · 
      simp [h1, h3]
      refine ⟨_, Weak.nil2 (id := 1) (e1 := 4) (e2 := 1) (t := 3) rfl (by simp [h3]), ?_⟩
      simp [newH, Model.cells, vVars, h1, h3]
    clear h1 h3
    rintro ⟨sl, hp, bs⟩ ⟨h3, h21, h22, h23, rfl⟩
    simp [h3, h21, h22, h23]
    refine WI.mono (Q := fun e st => e = .exit 0 ∧ gt st.sl 3 = .ptr 1 1 0 0 ∧ st.hp = newH (.mem false [] [m.cells]) (m.vars.map domOf))
      (WI.loop 4 (by simp [newH]) (fun st => ∃ j, j ≤ m.vars.length ∧ gt st.sl 3 = .ptr 1 1 0 0 ∧ gt st.sl 21 = vVars m.vars ∧ gt st.sl 22 = V.i m.vars.length ∧ gt st.sl 23 = V.i j ∧ st.hp = newH (.mem false [] [m.cells]) ((m.vars.take j).map domOf)) (fun st => (m.vars.length - (gt st.sl 23).num).toNat) ?_ ?_) ?_
    · exact ⟨0, by simp [h3, h21, h22, h23]⟩
    · clear h3 h21 h22 h23
      rintro ⟨sl, hp, bs⟩ ⟨j, hj, h3, h21, h22, h23, rfl⟩
      by_cases hjl : j < m.vars.length
      · have hvo := VarOk.of (hR.var j _ (List.getElem?_eq_getElem hjl))
        have hnv := hR.nv
        obtain ⟨v, hv⟩ : ∃ v, v = m.vars[j] := ⟨_, rfl⟩
        rw [← hv] at hvo
        have hw : IntKind.i64.wrap ((j : Int) + 1) = ((j + 1 : Nat) : Int) := by rw [wrap64] <;> omega
        obtain ⟨L, hL⟩ : ∃ L, L = (m.vars.take j).map domOf := ⟨_, rfl⟩
        have hLl : L.length = j := by rw [hL, List.length_map, List.length_take]; omega
        have hT : (m.vars.take (j + 1)).map domOf = L ++ [domOf v] := by
          rw [List.take_succ_eq_append_getElem hjl, List.map_append, ← hL, ← hv]; rfl
        rw [← hL]
        have hμ := h23
        unfold dom_New.b0
        refine vc_cut (fun st => gt st.sl 3 = .ptr 1 1 0 0 ∧ gt st.sl 21 = vVars m.vars ∧ gt st.sl 22 = V.i m.vars.length ∧ gt st.sl 23 = V.i j ∧ gt st.sl 24 = .bool true ∧ st.hp = newH (.mem false [] [m.cells]) L) (by simp [h3, h21, h22, h23, hjl]) ?_
        clear h3 h21 h22 h23
        rintro ⟨sl, hp, bs⟩ ⟨h3, h21, h22, h23, h24, rfl⟩
        refine vc_cut (fun st => gt st.sl 3 = .ptr 1 1 0 0 ∧ gt st.sl 21 = vVars m.vars ∧ gt st.sl 22 = V.i m.vars.length ∧ gt st.sl 23 = V.i j ∧ st.hp = newH (.mem false [] [m.cells]) L) (by simp [h3, h21, h22, h23, h24]) ?_
        clear h3 h21 h22 h23 h24
        rintro ⟨sl, hp, bs⟩ ⟨h3, h21, h22, h23, rfl⟩
        have hvl : v.cells.length = 3 := rfl
        have f1 := hvo.lo
        have f2 := hvo.hi
        have f3 := hvo.le
        have f4 := hvo.dom
        have hok := dom0_ok hvo
        have hw1 : IntKind.i64.wrap (v.hi - v.lo) = v.hi - v.lo := by rw [wrap64] <;> omega
        have hw2 : IntKind.i64.wrap (v.hi - v.lo + 1) = v.hi - v.lo + 1 := by rw [wrap64] <;> omega
        have hwd : ((dom0 v).width : Int) = v.hi - v.lo + 1 := by simp [dom0]; omega
        have hr0 : (dom0 v).row = [V.i v.lo, V.i (v.hi - v.lo + 1), V.w 0, V.w 0] := by rw [← hwd]; rfl
        refine vc_cut (fun st => gt st.sl 3 = .ptr 1 1 0 0 ∧ gt st.sl 21 = vVars m.vars ∧ gt st.sl 22 = V.i m.vars.length ∧ gt st.sl 23 = V.i j ∧ ∃ E, st.hp = newH (.mem false [] [m.cells]) (L ++ [domOf v]) ++ E) ?_ ?_
        · refine vc_cut (fun st => gt st.sl 3 = .ptr 1 1 0 0 ∧ gt st.sl 7 = .ptr 4 1 0 0 ∧ gt st.sl 21 = vVars m.vars ∧ gt st.sl 22 = V.i m.vars.length ∧ gt st.sl 23 = V.i j ∧ st.hp = newH (.mem false [] [m.cells]) L ++ [.mem false [] [v.cells]]) ?_ ?_
          · simp [h3, h21, h22, h23, hjl, vVars, newH, ← hv, Var.cells]
          clear h3 h21 h22 h23
          rintro ⟨sl, hp, bs⟩ ⟨h3, h7, h21, h22, h23, rfl⟩
          refine vc_cut (fun st => gt st.sl 3 = .ptr 1 1 0 0 ∧ gt st.sl 8 = .ptr 5 1 0 0 ∧ gt st.sl 21 = vVars m.vars ∧ gt st.sl 22 = V.i m.vars.length ∧ gt st.sl 23 = V.i j ∧ st.hp = newH (.mem false [] [m.cells]) L ++ [.mem false [] [v.cells], .mem false [] [(dom0 v).row]]) ?_ ?_
          · simp [h3, h7, h21, h22, h23, newH, Var.cells, hw1, hw2, hr0]
          clear h3 h7 h21 h22 h23
          rintro ⟨sl, hp, bs⟩ ⟨h3, h8, h21, h22, h23, rfl⟩
          refine vc_cut (fun st => gt st.sl 3 = .ptr 1 1 0 0 ∧ gt st.sl 8 = .ptr 5 1 0 0 ∧ gt st.sl 21 = vVars m.vars ∧ gt st.sl 22 = V.i m.vars.length ∧ gt st.sl 23 = V.i j ∧ st.hp = newH (.mem false [] [m.cells]) L ++ [.mem false [] [v.cells], .mem false [] [(domOf v).row]]) ?_ ?_
          · obtain ⟨D, hDD⟩ : ∃ D, D = dom0 v := ⟨_, rfl⟩
            have hdo : domOf v = fillTo D D.width := by rw [hDD]; rfl
            rw [hdo, ← hDD]
            rw [← hDD] at hok
            have hwl := hok.w
            simp [h3, h8, h21, h22, h23, newH]
            refine WI.mono (Q := fun e st => e = .exit 2 ∧ gt st.sl 3 = .ptr 1 1 0 0 ∧ gt st.sl 8 = .ptr 5 1 0 0 ∧ gt st.sl 21 = vVars m.vars ∧ gt st.sl 22 = V.i m.vars.length ∧ gt st.sl 23 = V.i j ∧ st.hp = newH (.mem false [] [m.cells]) L ++ [.mem false [] [v.cells], .mem false [] [(fillTo D D.width).row]])
              (WI.loop 6 (by simp) (fun st => ∃ i, i ≤ D.width ∧ gt st.sl 3 = .ptr 1 1 0 0 ∧ gt st.sl 8 = .ptr 5 1 0 0 ∧ gt st.sl 21 = vVars m.vars ∧ gt st.sl 22 = V.i m.vars.length ∧ gt st.sl 23 = V.i j ∧ gt st.sl 37 = V.i D.width ∧ gt st.sl 38 = V.i i ∧ st.hp = newH (.mem false [] [m.cells]) L ++ [.mem false [] [v.cells], .mem false [] [(fillTo D i).row]]) (fun st => (D.width - (gt st.sl 38).num).toNat) ?_ ?_) ?_
            · exact ⟨0, by simp [h3, h8, h21, h22, h23, newH, fillTo]⟩
            · clear h3 h8 h21 h22 h23
              rintro ⟨sl, hp, bs⟩ ⟨i, hi, h3, h8, h21, h22, h23, h37, h38, rfl⟩
              by_cases hil : i < D.width
              · have hwi : IntKind.i64.wrap ((i : Int) + 1) = ((i + 1 : Nat) : Int) := by rw [wrap64] <;> omega
                have ht : ((i : Int).tmod 32) = ((i % 32 : Nat) : Int) := by rw [Int.tmod_eq_emod_of_nonneg (by omega)]; rfl
                have hm' : ((i : Int) % 32).toNat = i % 32 := by omega
                have hp' : 0 ≤ (i : Int) % 32 := by omega
                have hadd := add_row (fillTo D i) i (by omega)
                have hsucc : fillTo D (i + 1) = (fillTo D i).add i := rfl
                by_cases h : i < 32
                · have h1 : IntKind.i64.wrap ((i : Int) / 32) = 0 := by rw [wrap64] <;> omega
                  have h2 : i % 32 = i := by omega
                  rw [if_pos h] at hadd
                  simp [dom_New.b1, newH, ht, hm', hp', h2, h3, h8, h21, h22, h23, h37, h38, hil, hwi, h1, h, bits32, limO, O.refs]
                  refine ⟨⟨i + 1, by omega, by omega, ?_⟩, by omega⟩
                  rw [hsucc, ← hadd]
                  exact congrArg (fun n => [V.i (fillTo D i).from', V.i (fillTo D i).width, V.a (.int .u32 n), V.w (fillTo D i).b]) (sett32 h)
                · have h1 : IntKind.i64.wrap ((i : Int) / 32) = 1 := by rw [wrap64] <;> omega
                  have h2 : i % 32 = i - 32 := by omega
                  have h3' : i - 32 < 32 := by omega
                  rw [if_neg h] at hadd
                  simp [dom_New.b1, newH, ht, hm', hp', h2, h3, h8, h21, h22, h23, h37, h38, hil, hwi, h1, h, bits32, limO, O.refs]
                  refine ⟨⟨i + 1, by omega, by omega, ?_⟩, by omega⟩
                  rw [hsucc, ← hadd]
                  exact congrArg (fun n => [V.i (fillTo D i).from', V.i (fillTo D i).width, V.w (fillTo D i).a, V.a (.int .u32 n)]) (sett32 h3')
              · obtain rfl : i = D.width := by omega
                simp [dom_New.b1, h3, h8, h21, h22, h23, h37, h38]
            · rintro e ⟨sl, hp, bs⟩ ⟨rfl, h3, h8, h21, h22, h23, rfl⟩
              simp [h3, h8, h21, h22, h23, newH]
          clear h3 h8 h21 h22 h23
          rintro ⟨sl, hp, bs⟩ ⟨h3, h8, h21, h22, h23, rfl⟩
          simp [h3, h8, h21, h22, h23, newH, hLl]
          omega
        clear h3 h21 h22 h23
        rintro ⟨sl, hp, bs⟩ ⟨h3, h21, h22, h23, E, rfl⟩
        simp [h3, h21, h22, h23, newH, hLl, hw, hμ, limO, O.refs]
        refine ⟨⟨j + 1, by omega, by omega, by omega, ?_⟩, by omega⟩
        rw [← List.map_take, ← List.map_map, hT]
        simp
      · obtain rfl : j = m.vars.length := by omega
        simp [dom_New.b0, h3, h21, h22, h23]
    · rintro e ⟨sl, hp, bs⟩ ⟨rfl, h3, rfl⟩
      simp [h3]
  clear h1 h3
  rintro ⟨sl, hp, bs⟩ ⟨h3, rfl⟩
  simp [h3, dom_New.rs]
end Go.Abs.G


namespace Go.Abs.G
open Go.Proofs
set_option linter.unusedVariables false
set_option linter.unusedSimpArgs false
attribute [local simp] I.vc

end Go.Abs.G


namespace Go.Abs.G
open Go.Proofs
set_option linter.unusedVariables false
set_option linter.unusedSimpArgs false
attribute [local simp] I.vc

theorem mT_len (ms : List (List Dom)) : (mT ms).length = ms.length := by simp [mT]

end Go.Abs.G


namespace Go.Abs.G
open Go.Proofs
set_option linter.unusedVariables false
set_option linter.unusedSimpArgs false
attribute [local simp] I.vc

theorem kids_get (es : Nat) : ∀ (n : Nat) (l : List (List (List Ce))) (i : Nat) (L : List (List Ce)), l[i]? = some L → (kids es n l)[i]? = some ⟨n + i, es, [], L⟩
  | _, [], i, L, h => by simp at h
  | n, M :: l, 0, L, h => by simp at h; subst h; rfl
  | n, M :: l, i + 1, L, h => by
    have := kids_get es (n + 1) l i L (by simpa using h)
    simp only [kids, List.getElem?_cons_succ, this]
    have e : n + 1 + i = n + (i + 1) := by omega
    rw [e]
end Go.Abs.G


namespace Go.Abs.G
open Go.Proofs
set_option linter.unusedVariables false
set_option linter.unusedSimpArgs false
attribute [local simp] I.vc

end Go.Abs.G


namespace Go.Abs.G
open Go.Proofs
set_option linter.unusedVariables false
set_option linter.unusedSimpArgs false
attribute [local simp] I.vc

end Go.Abs.G


namespace Go.Abs.G
open Go.Proofs
set_option linter.unusedVariables false
set_option linter.unusedSimpArgs false
attribute [local simp] I.vc

theorem domCe_ren (f : Nat → Nat) (L : List Dom) : Ce.renR f (L.map domCe) = L.map domCe := by
  induction L with
  | nil => rfl
  | cons d L ih =>
    have : Ce.renL f (domCe d) = domCe d := rfl
    simp [Ce.renR, this, ih]
theorem mT_ren (f : Nat → Nat) (ms : List (List Dom)) : Ce.renR f (mT ms) = mT ms := by
  induction ms with
  | nil => rfl
  | cons L ms ih =>
    have h : Ce.renR f (ms.map fun L => [Ce.n 4 (L.map domCe)]) = ms.map fun L => [Ce.n 4 (L.map domCe)] := ih
    simp [mT, Ce.renR, Ce.renL, Ce.ren, domCe_ren, h]
structure SOk (s : List Dom) (ms : List (List Dom)) : Prop where
  n : s.length ≤ 64
  k : ms.length ≤ 1000000
  d : ∀ d ∈ s, d.ok
theorem SOk.st {s : List Dom} {ms : List (List Dom)} (h : SOk s ms) : StOk s (mT ms) := ⟨h.n, by rw [mT_len]; exact h.k, h.d, fun f => mT_ren f ms⟩

section
variable {s : List Dom} {ms : List (List Dom)} (h : SOk s ms)
include h
theorem varsP : DC Tryz.prog dom_Store_Vars.id [.ptr 0 1 0 0] [St1 s (mT ms)] fun r H => r = V.i s.length ∧ H = [St1 s (mT ms)] :=
  DC.packed (mT_ids ms) (mT_ids ms) (Q := fun r => r = V.i s.length) (vars_spec h.st) (by rintro r rfl; rfl)
theorem hasP (x v : Int) (hv : I64 v) : DC Tryz.prog dom_Store_Has.id [.ptr 0 1 0 0, V.i x, V.i v] [St1 s (mT ms)] fun r H => r = .bool (hasB s x v) ∧ H = [St1 s (mT ms)] :=
  DC.packed (mT_ids ms) (mT_ids ms) (Q := fun r => r = .bool (hasB s x v)) (hasS_spec h.st x v hv) (by rintro r rfl; rfl)
theorem valuesP (x : Int) : DC Tryz.prog dom_Store_Values.id [.ptr 0 1 0 0, V.i x] [St1 s (mT ms)] fun r H => r = vInts (valsB s x) ∧ H = [St1 s (mT ms)] :=
  DC.packed (mT_ids ms) (mT_ids ms) (Q := fun r => r = vInts (valsB s x)) (values_spec h.st x) (by rintro r rfl; rfl)
theorem cutP (k x v : Int) : DC Tryz.prog dom_Store_Cut.id [.ptr 0 1 0 0, .agg [V.i k, V.i x, V.i v]] [St1 s (mT ms)] fun r H => r = .tup [.bool (cutS s k x v).2.1, .bool (cutS s k x v).2.2] ∧ H = [St1 (cutS s k x v).1 (mT ms)] :=
  DC.packed (mT_ids ms) (mT_ids ms) (Q := fun r => r = .tup [.bool (cutS s k x v).2.1, .bool (cutS s k x v).2.2]) (cut_spec h.st k x v) (by rintro r rfl; rfl)
theorem loP (x : Int) (hne : isB s x = true → valsB s x ≠ []) : DC Tryz.prog dom_Store_Lo.id [.ptr 0 1 0 0, V.i x] [St1 s (mT ms)] fun r H => r = V.i (if isB s x then (valsB s x).headD 0 else 0) ∧ H = [St1 s (mT ms)] :=
  DC.packed (mT_ids ms) (mT_ids ms) (Q := fun r => r = V.i (if isB s x then (valsB s x).headD 0 else 0)) (lo_spec h.st x hne) (by rintro r rfl; rfl)
theorem hiP (x : Int) (hne : isB s x = true → valsB s x ≠ []) : DC Tryz.prog dom_Store_Hi.id [.ptr 0 1 0 0, V.i x] [St1 s (mT ms)] fun r H => r = V.i (if isB s x then (valsB s x).getLastD 0 else 0) ∧ H = [St1 s (mT ms)] :=
  DC.packed (mT_ids ms) (mT_ids ms) (Q := fun r => r = V.i (if isB s x then (valsB s x).getLastD 0 else 0)) (hi_spec h.st x hne) (by rintro r rfl; rfl)
end
end Go.Abs.G


namespace Go.Abs.G
open Go.Proofs
set_option linter.unusedVariables false
set_option linter.unusedSimpArgs false
attribute [local simp] I.vc

theorem close_storeAt {w : World} {β : Nat → Hd} {F : Nat → Prop} {H : Heap} {s : List Dom} {T : List (List Ce)} {rf rb : List Nat} {p a b : Nat} (hk : HOK w.heap H β F)
    (h0 : H[p]? = some (.mem false rf [[.own a 4 0 s.length s.length, .own b 1 0 T.length T.length]])) (ha : H[a]? = some (.mem false [] (s.map Dom.row))) (hb : H[b]? = some (.tree rb T)) (hT : Ce.idsR T = [])
    (na : a ≠ p) (nb : b ≠ p) (nab : a ≠ b) (hlo : (β p).lo = 0) : ∃ β' H2, Adv F w H β w H2 β' ∧ H2[p]? = some (St1 s T) ∧ H2.length = H.length := by
  obtain ⟨β1, a1⟩ := adv_toTree hk h0 hlo
  generalize hP : O.tree rf (flatC [[.own a 4 0 s.length s.length, .own b 1 0 T.length T.length]]) = P at a1
  have p1 : (H.set p P)[p]? = some (.tree rf [[.v (.own a 4 0 s.length s.length), .v (.own b 1 0 T.length T.length)]]) := by rw [get_set h0, ← hP]; rfl
  have q1 : (H.set p P)[a]? = some (.mem false [] (s.map Dom.row)) := by rw [getElem?_set_ne' na]; exact ha
  have r1 : (H.set p P)[b]? = some (.tree rb T) := by rw [getElem?_set_ne' nb]; exact hb
  have la : (β1 a).lo = 0 := lo_of_tree (i := 0) (j := 0) a1.hok p1 rfl rfl (by unfold hdOf; rw [q1]; simp)
  have hl1 : (H.set p P).length = H.length := List.length_set
  generalize H.set p P = H1 at a1 p1 q1 r1 hl1
  obtain ⟨β2, a2⟩ := adv_toTree a1.hok q1 la
  rw [← domCe_flat] at a2
  have p2 : (H1.set a (.tree [] (s.map domCe)))[p]? = some (.tree rf [[.v (.own a 4 0 s.length s.length), .v (.own b 1 0 T.length T.length)]]) := by rw [getElem?_set_ne' (Ne.symm na)]; exact p1
  have q2 : (H1.set a (.tree [] (s.map domCe)))[a]? = some (.tree [] (s.map domCe)) := get_set q1
  have r2 : (H1.set a (.tree [] (s.map domCe)))[b]? = some (.tree rb T) := by rw [getElem?_set_ne' (Ne.symm nab)]; exact r1
  have hl2 : (H1.set a (.tree [] (s.map domCe))).length = H.length := by rw [List.length_set]; exact hl1
  generalize H1.set a (.tree [] (s.map domCe)) = H2 at a2 p2 q2 r2 hl2
  obtain ⟨β3, a3⟩ := adv_pack (i := 0) (j := 0) a2.hok p2 q2 (Ne.symm na) rfl rfl (by simp)
  generalize hP3 : O.tree (rf ++ []) _ = P3 at a3
  have p3 : ((H2.set a O.dead).set p P3)[p]? = some (.tree (rf ++ []) [[.n 4 (s.map domCe), .v (.own b 1 0 T.length T.length)]]) := by rw [get_set (x := _) (by rw [getElem?_set_ne' (Ne.symm na)]; exact p2), ← hP3]; rfl
  have r3 : ((H2.set a O.dead).set p P3)[b]? = some (.tree rb T) := by rw [getElem?_set_ne' nb, getElem?_set_ne' (Ne.symm nab)]; exact r2
  have hl3 : ((H2.set a O.dead).set p P3).length = H.length := by rw [List.length_set, List.length_set]; exact hl2
  generalize (H2.set a O.dead).set p P3 = H3 at a3 p3 r3 hl3
  obtain ⟨β4, a4⟩ := adv_pack (i := 0) (j := 1) a3.hok p3 r3 (Ne.symm nb) rfl rfl rfl
  generalize hP4 : O.tree (rf ++ [] ++ rb) _ = P4 at a4
  have p4 : ((H3.set b O.dead).set p P4)[p]? = some (.tree (rf ++ [] ++ rb) [[.n 4 (s.map domCe), .n 1 T]]) := by rw [get_set (x := _) (by rw [getElem?_set_ne' (Ne.symm nb)]; exact p3), ← hP4]; rfl
  have hl4 : ((H3.set b O.dead).set p P4).length = H.length := by rw [List.length_set, List.length_set]; exact hl3
  generalize (H3.set b O.dead).set p P4 = H4 at a4 p4 hl4
  obtain ⟨β5, a5⟩ := adv_refsT (refs' := []) a4.hok p4 (by simp [Ce.idsR, Ce.idsL, Ce.ids, domCe_ids, hT])
  exact ⟨β5, _, a1.trans (a2.trans (a3.trans (a4.trans a5))), get_set p4, by rw [List.length_set]; exact hl4⟩

theorem newP (m : Model) (hm : okModel m) : DC Tryz.prog dom_New.id [.agg m.cells] [] (fun r H => r = .ptr 1 1 0 0 ∧ ∃ B, H = [B, St1 (domsOf m) (mT [])]) := by
  refine DC.trim (Q := fun r H => r = .ptr 1 1 0 0 ∧ H[1]? = some (St1 (domsOf m) (mT []))) ?_ ?_
  rotate_left
  · rintro r H ⟨rfl, h2⟩
    refine ⟨2, by simp, by simp [V.ids], rfl, ?_⟩
    match H, h2 with
    | x :: y :: tl, h2 =>
      simp at h2
      subst h2
      exact ⟨limO 2 x, by simp [St1, limO, O.refs]⟩
  refine DC.post' (new_spec m hm) ?_
  rintro x H1 ⟨rfl, B, rfl⟩ w β F vs hk hr
  obtain ⟨β', H2, a, h2, _⟩ := close_storeAt (p := 1) (a := 2) (b := 3) (rf := [2, 3]) (rb := []) (s := domsOf m) (T := mT []) hk rfl rfl rfl (mT_ids []) (by simp) (by simp) (by simp) (lo_arg (i := 0) hr rfl rfl)
  exact ⟨β', H2, a, rfl, h2⟩
end Go.Abs.G


namespace Go.Abs.G
open Go.Proofs
attribute [local simp] I.vc sub merge place
set_option linter.unusedVariables false
set_option linter.unusedSimpArgs false

end Go.Abs.G



namespace Go.Abs.G
open Go.Proofs
attribute [local simp] I.vc sub merge place
set_option linter.unusedVariables false
set_option linter.unusedSimpArgs false

end Go.Abs.G



/- Holds, Solution: what they tell. -/
namespace Go.Abs

structure ConOk (c : Con) (vars : Nat) (n : Needs) : Prop where
  terms : ∀ t ∈ c.terms, TermOk vars t
  termsN : c.terms.length ≤ 64
  xs : ∀ x ∈ c.xs, 0 ≤ x ∧ x < vars
  xsN : c.xs.length ≤ 64
  xs1 : n.xs = true → 1 ≤ c.xs.length
  x : n.x = true → 0 ≤ c.x ∧ c.x < vars
  y : n.y = true → 0 ≤ c.y ∧ c.y < vars
  k : -1000000000 ≤ c.k ∧ c.k ≤ 1000000000
  rowsN : c.rows.length ≤ 64
  tableN : c.table.length ≤ 64

theorem ConOk.of {c : Con} {vars : Nat} {n : Needs} (h : conN c vars n = 0) : ConOk c vars n := by
  unfold conN at h
  split at h
  · cases h
  · split at h
    · cases h
    · next h1 =>
      split at h
      · cases h
      · next h2 =>
        split at h
        · cases h
        · next h3 =>
          split at h
          · cases h
          · next h4 =>
            split at h
            · cases h
            · next h5 =>
              simp only [Bool.or_eq_true, not_or, Bool.not_eq_true', Bool.and_eq_true, not_and, decide_eq_true_eq, Bool.not_eq_false] at h2 h3 h5
              obtain ⟨⟨⟨t1, t2⟩, t3⟩, t4⟩ := h2
              obtain ⟨⟨⟨v1, v2⟩, v3⟩, v4⟩ := h3
              obtain ⟨⟨⟨k1, k2⟩, k3⟩, k4⟩ := h5
              have hf : ∀ {a : Bool} {k : Nat}, fieldB c n = false → (!a && decide (0 < k)) = false → countsB a k = true → k ≤ 64 := by
                intro a k _ h h'
                unfold countsB at h'
                cases a <;> simp at h h' <;> omega
              have hfield : fieldB c n = false := by simpa using h1
              have hfl := hfield
              unfold fieldB at hfl
              simp only [Bool.or_eq_false_iff] at hfl
              obtain ⟨⟨⟨⟨_, f1⟩, f2⟩, f3⟩, f4⟩ := hfl
              refine ⟨TermOk.of (by simpa using v1) (by simpa using h4), hf hfield f1 t1, fun x hx => ?_, hf hfield f2 t2, fun hn => ?_, fun hn => ?_, fun hn => ?_, ?_, ?_, hf hfield f3 t3⟩
              · have := (List.any_eq_false.1 (by simpa using v4 : c.xs.any (noB vars) = false)) x hx
                simp [noB] at this
                omega
              · unfold countsB at t2
                rw [hn] at t2
                simp at t2
                omega
              · have := v2 hn
                simp [noB] at this
                omega
              · have := v3 hn
                simp [noB] at this
                omega
              · simp [withinB] at k1
                omega
              · cases hn : n.rows
                · rw [hn] at f4
                  simp at f4
                  simp [f4]
                · have h5' := t4
                  simp [wideB, hn, countsB] at h5'
                  omega
end Go.Abs

namespace Go.Abs.G
open Go.Proofs
attribute [local simp] I.vc sub merge place
set_option linter.unusedVariables false
set_option linter.unusedSimpArgs false

structure AtOk (f : FuncId) (cap : List V) (g : Int → Int) (vars : Nat) : Prop where
  ok : okFunc Tryz.prog f = true
  ids : V.idsL cap = []
  run : ∀ x : Int, 0 ≤ x → x < vars → DP Tryz.prog f (V.i x :: cap) fun r => r = V.i (g x)
  bound : ∀ x : Int, 0 ≤ x → x < vars → -1000000000 ≤ g x ∧ g x ≤ 1000000000

section
variable {f : FuncId} {cap : List V} {g : Int → Int} {vars : Nat} (A : AtOk f cap g vars)
include A

end
end Go.Abs.G



namespace Go.Abs.G
open Go.Proofs
attribute [local simp] I.vc sub merge place
set_option linter.unusedVariables false
set_option linter.unusedSimpArgs false

section
variable {f : FuncId} {cap : List V} {g : Int → Int} {vars : Nat} (A : AtOk f cap g vars)
include A

end
end Go.Abs.G



namespace Go.Abs.G
open Go.Proofs
attribute [local simp] I.vc sub merge place
set_option linter.unusedVariables false
set_option linter.unusedSimpArgs false

abbrev rowsO (d : Array Int) : O := .mem false [] (d.toList.map fun n => [V.a (.int .i64 n)])
abbrev dataV (n : Nat) : V := .own 0 1 0 n n
abbrev vi (n : Int) : V := .a (.int .i64 n)

theorem isNaN_spec (x : Int) : Pf Tryz.prog cmp_isNaN_int.id [vi x] (.bool false) := by
  refine DC.of cmp_isNaN_int.ok (by simp) ?_
  simp [cmp_isNaN_int.ir, cmp_isNaN_int.rs]

theorem less_spec (x y : Int) : Pf Tryz.prog cmp_Less_int.id [vi x, vi y] (.bool (Go.Sort.ltInt x y)) := by
  refine DC.of cmp_Less_int.ok (by simp) ?_
  simp -dsimp [↓call_f, cmp_Less_int.ir, cmp_Less_int.rs]
  refine (isNaN_spec x).use ?_
  simp -dsimp [↓call_f, cmp_Less_int.ir, cmp_Less_int.rs, Go.Sort.ltInt]

theorem get_bang (d : Array Int) {i : Nat} (h : i < d.size) : d[i]! = d[i] := getElem!_pos d i h
theorem swp_size (d : Array Int) (i j : Nat) : (Go.Sort.swp d i j).size = d.size := by simp [Go.Sort.swp]
theorem swp_rows (d : Array Int) {i j : Nat} (hi : i < d.size) (hj : j < d.size) : ((d.toList.map fun n => [V.a (.int .i64 n)]).set i [V.a (.int .i64 d[j])]).set j [V.a (.int .i64 d[i])] = (Go.Sort.swp d i j).toList.map fun n => [V.a (.int .i64 n)] := by
  simp only [Go.Sort.swp, Array.toList_setIfInBounds, List.map_set, get_bang d hi, get_bang d hj]

theorem insInner_size (a : Nat) : ∀ (j : Nat) (d : Array Int), (Go.Sort.insInner Go.Sort.ltInt a j d).size = d.size := by
  intro j
  induction j with
  | zero => intro d; rfl
  | succ j ih =>
    intro d
    simp only [Go.Sort.insInner]
    split
    · rw [ih, swp_size]
    · rfl

theorem insInner_loop {n a b i : Nat} (hs : n ≤ 4611686018427387904) (hi : i < n) (d : Array Int) (hd : d.size = n) (Q : Ex → St → Prop) (sl : Sl) (bs : Nat)
    (h0 : gt sl 0 = dataV n) (h1 : gt sl 1 = vi a) (h2 : gt sl 2 = vi b) (h6 : gt sl 6 = vi i) (h7 : gt sl 7 = vi i)
    (hq : ∀ s, gt s.sl 0 = dataV n → gt s.sl 1 = vi a → gt s.sl 2 = vi b → gt s.sl 6 = vi i → s.hp = [rowsO (Go.Sort.insInner Go.Sort.ltInt a i d)] → Q (.exit 2) s) :
    WI Tryz.prog (.loop slices_insertionSortOrdered_int.b1) Q ⟨sl, [rowsO d], bs⟩ := by
  refine WI.loop 1 (by simp) (fun s => ∃ (j : Nat) (d' : Array Int), j ≤ i ∧ d'.size = n ∧ gt s.sl 0 = dataV n ∧ gt s.sl 1 = vi a ∧ gt s.sl 2 = vi b ∧ gt s.sl 6 = vi i ∧ gt s.sl 7 = vi j ∧ s.hp = [rowsO d'] ∧ Go.Sort.insInner Go.Sort.ltInt a i d = Go.Sort.insInner Go.Sort.ltInt a j d') (fun s => (gt s.sl 7).num.toNat) ?_ ?_
  · exact ⟨i, d, Nat.le_refl _, hd, h0, h1, h2, h6, h7, rfl, rfl⟩
  · clear h0 h1 h2 h6 h7 hd
    rintro ⟨sl, hp, bs⟩ ⟨j, d', hj, hd, h0, h1, h2, h6, h7, rfl, he⟩
    cases j with
    | zero =>
      have g0 : Go.Sort.insInner Go.Sort.ltInt a 0 d' = d' := rfl
      rw [g0] at he
      have hna : ¬ (a : Int) < 0 := by omega
      simp -dsimp [↓call_f, slices_insertionSortOrdered_int.b1, h0, h1, h2, h6, h7, hna]
      exact hq _ (by simp) (by simp) (by simp) (by simp) (by simp [he])
    | succ j =>
      have hj1 : j + 1 < d'.size := by omega
      have hj0 : j < d'.size := by omega
      have hw : IntKind.i64.wrap (((j + 1 : Nat) : Int) - 1) = (j : Int) := by rw [wrap64] <;> omega
      by_cases hja : a < j + 1
      · have hja' : (a : Int) < (j : Int) + 1 := by omega
        have hle1 : j + 1 < n := by omega
        have hle0 : j < n := by omega
        simp only [Go.Sort.insInner] at he
        rw [get_bang d' hj1, get_bang d' hj0] at he
        have hws : IntKind.i64.wrap (j : Int) = (j : Int) := by rw [wrap64] <;> omega
        simp -dsimp [↓call_f, slices_insertionSortOrdered_int.b1, h0, h1, h2, h6, h7, hja', hws, hd, hle1, hle0]
        refine ⟨by omega, ?_⟩
        refine (less_spec d'[j + 1] d'[j]).use ?_
        have hsw := swp_rows d' hj1 hj0
        by_cases hlt : Go.Sort.ltInt d'[j + 1] d'[j] = true
        · rw [hlt, if_pos (by simp; omega)] at he
          simp -dsimp [hlt, h0, h1, h2, h6, h7, hws, hd, hle1, hle0]
          exact ⟨by omega, ⟨j, by omega, Go.Sort.swp d' (j + 1) j, by rw [swp_size]; exact hd, rfl, hsw, he⟩, by omega⟩
        · have hlt : Go.Sort.ltInt d'[j + 1] d'[j] = false := by simpa using hlt
          rw [hlt] at he
          simp -dsimp [hlt, h0, h1, h2, h6, h7]
          exact hq _ (by simp) (by simp) (by simp) (by simp) (by simp [he])
      · have hja' : ¬ (a : Int) < (j : Int) + 1 := by omega
        simp only [Go.Sort.insInner] at he
        rw [if_neg (by simp; omega)] at he
        simp -dsimp [↓call_f, slices_insertionSortOrdered_int.b1, h0, h1, h2, h6, h7, hja']
        exact hq _ (by simp) (by simp) (by simp) (by simp) (by simp [he])


theorem insertion_spec (d : Array Int) (a b : Nat) (ha : a ≤ d.size) (hb : b ≤ d.size) (hs : d.size ≤ 4611686018427387904) :
    DC Tryz.prog slices_insertionSortOrdered_int.id [dataV d.size, vi a, vi b] [rowsO d] (fun r H => H = [rowsO (Go.Sort.insertionSort Go.Sort.ltInt d a b)]) := by
  refine DC.of slices_insertionSortOrdered_int.ok (by simp) ?_
  have hw : IntKind.i64.wrap ((a : Int) + 1) = ((a + 1 : Nat) : Int) := by rw [wrap64] <;> omega
  simp -dsimp [↓loop_f, slices_insertionSortOrdered_int.ir, slices_insertionSortOrdered_int.rs, hw]
  refine WI.loop 1 (by simp) (fun s => ∃ (i : Nat) (d' : Array Int), d'.size = d.size ∧ gt s.sl 0 = dataV d.size ∧ gt s.sl 1 = vi a ∧ gt s.sl 2 = vi b ∧ gt s.sl 6 = vi i ∧ s.hp = [rowsO d'] ∧ Go.Sort.insertionSort Go.Sort.ltInt d a b = Go.Sort.insOuter Go.Sort.ltInt a b i d') (fun s => (b - (gt s.sl 6).num).toNat) ?_ ?_
  · exact ⟨a + 1, d, rfl, by simp, by simp, by simp, by simp, rfl, rfl⟩
  · rintro ⟨sl, hp, bs⟩ ⟨i, d', hd, h0, h1, h2, h6, rfl, he⟩
    rw [Go.Sort.insOuter] at he
    by_cases hib : i < b
    · rw [if_pos hib] at he
      have hwi : IntKind.i64.wrap ((i : Int) + 1) = ((i + 1 : Nat) : Int) := by rw [wrap64] <;> omega
      simp -dsimp [↓loop_f, slices_insertionSortOrdered_int.b0, h0, h1, h2, h6, hib]
      refine insInner_loop (n := d.size) (a := a) (b := b) (i := i) hs (by omega) d' hd _ _ _ (by simp) (by simp) (by simp) (by simp) (by simp) ?_
      rintro ⟨sl, hp, bs⟩ h0 h1 h2 h6 rfl
      simp -dsimp [h0, h1, h2, h6, hwi]
      exact ⟨⟨i + 1, Go.Sort.insInner Go.Sort.ltInt a i d', by rw [insInner_size]; exact hd, by omega, rfl, he⟩, by omega⟩
    · rw [if_neg hib] at he
      simp -dsimp [slices_insertionSortOrdered_int.b0, h0, h1, h2, h6, hib, he]
end Go.Abs.G


namespace Go.Abs.G
open Go.Proofs
attribute [local simp] I.vc sub merge place
set_option linter.unusedVariables false
set_option linter.unusedSimpArgs false

theorem reverse_spec (d : Array Int) (a b : Nat) (hb1 : 1 ≤ b) (hb : b ≤ d.size) (hs : d.size ≤ 4611686018427387904) :
    DC Tryz.prog slices_reverseRangeOrdered_int.id [dataV d.size, vi a, vi b] [rowsO d] (fun r H => H = [rowsO (Go.Sort.reverseRange d a b)]) := by
  refine DC.of slices_reverseRangeOrdered_int.ok (by simp) ?_
  have hw : IntKind.i64.wrap ((b : Int) - 1) = ((b - 1 : Nat) : Int) := by rw [wrap64] <;> omega
  simp -dsimp [↓loop_f, slices_reverseRangeOrdered_int.ir, slices_reverseRangeOrdered_int.rs, hw]
  refine WI.loop 1 (by simp) (fun s => ∃ (i j : Nat) (d' : Array Int), j < d.size ∧ d'.size = d.size ∧ gt s.sl 0 = dataV d.size ∧ gt s.sl 6 = vi i ∧ gt s.sl 7 = vi j ∧ s.hp = [rowsO d'] ∧ Go.Sort.reverseRange d a b = Go.Sort.reverseLoop i j d') (fun s => ((gt s.sl 7).num - (gt s.sl 6).num).toNat) ?_ ?_
  · exact ⟨a, b - 1, d, by omega, rfl, by simp, by simp, by simp, rfl, rfl⟩
  · rintro ⟨sl, hp, bs⟩ ⟨i, j, d', hj, hd, h0, h6, h7, rfl, he⟩
    rw [Go.Sort.reverseLoop] at he
    by_cases hij : i < j
    · rw [if_pos hij] at he
      have hi1 : i < d'.size := by omega
      have hj1 : j < d'.size := by omega
      have hin : i < d.size := by omega
      have hsw := swp_rows d' hi1 hj1
      have hwi : IntKind.i64.wrap ((i : Int) + 1) = ((i + 1 : Nat) : Int) := by rw [wrap64] <;> omega
      have hwj : IntKind.i64.wrap ((j : Int) - 1) = ((j - 1 : Nat) : Int) := by rw [wrap64] <;> omega
      have hne : ¬ i = j := by omega
      simp -dsimp [slices_reverseRangeOrdered_int.b0, h0, h6, h7, hij, hd, hin, hj, hwi, hwj, hne, List.getElem_set]
      exact ⟨⟨i + 1, j - 1, by omega, Go.Sort.swp d' i j, by rw [swp_size]; exact hd, by omega, rfl, hsw, he⟩, by omega⟩
    · rw [if_neg hij] at he
      simp -dsimp [slices_reverseRangeOrdered_int.b0, h0, h6, h7, hij, he]

abbrev swO (s : Nat) : O := .mem false [] [[vi s]]

theorem order2_spec (d : Array Int) (a b s : Nat) (ha : a < d.size) (hb : b < d.size) (hs : s ≤ 1000) :
    DC Tryz.prog slices_order2Ordered_int.id [dataV d.size, vi a, vi b, .ptr 1 1 0 0] [rowsO d, swO s] (fun r H => r = .tup [vi (Go.Sort.order2 Go.Sort.ltInt d a b s).1, vi (Go.Sort.order2 Go.Sort.ltInt d a b s).2.1] ∧ H = [rowsO d, swO (Go.Sort.order2 Go.Sort.ltInt d a b s).2.2]) := by
  refine DC.of slices_order2Ordered_int.ok (by simp) ?_
  have hw : IntKind.i64.wrap ((s : Int) + 1) = ((s + 1 : Nat) : Int) := by rw [wrap64] <;> omega
  simp -dsimp [↓call_f, slices_order2Ordered_int.ir, slices_order2Ordered_int.rs, ha, hb]
  refine (less_spec d[b] d[a]).use ?_
  unfold Go.Sort.order2
  rw [get_bang d ha, get_bang d hb]
  by_cases hlt : Go.Sort.ltInt d[b] d[a] = true
  · simp -dsimp [hlt, hw, slices_order2Ordered_int.rs]
  · have hlt : Go.Sort.ltInt d[b] d[a] = false := by simpa using hlt
    simp -dsimp [hlt, slices_order2Ordered_int.rs]

theorem order2_bound (d : Array Int) (a b s n : Nat) (ha : a < n) (hb : b < n) : (Go.Sort.order2 Go.Sort.ltInt d a b s).1 < n ∧ (Go.Sort.order2 Go.Sort.ltInt d a b s).2.1 < n ∧ (Go.Sort.order2 Go.Sort.ltInt d a b s).2.2 ≤ s + 1 := by
  unfold Go.Sort.order2
  split <;> simp <;> omega

theorem median_spec (d : Array Int) (a b c s : Nat) (ha : a < d.size) (hb : b < d.size) (hc : c < d.size) (hs : s ≤ 900) :
    DC Tryz.prog slices_medianOrdered_int.id [dataV d.size, vi a, vi b, vi c, .ptr 1 1 0 0] [rowsO d, swO s] (fun r H => r = vi (Go.Sort.median Go.Sort.ltInt d a b c s).1 ∧ H = [rowsO d, swO (Go.Sort.median Go.Sort.ltInt d a b c s).2]) := by
  refine DC.of slices_medianOrdered_int.ok (by simp) ?_
  have hn := order2_bound d a b s d.size ha hb
  have g1 := order2_spec d a b s ha hb (by omega)
  unfold Go.Sort.median
  generalize Go.Sort.order2 Go.Sort.ltInt d a b s = r1 at *
  obtain ⟨a1, b1, s1⟩ := r1
  simp only at hn g1 ⊢
  have hn2 := order2_bound d b1 c s1 d.size hn.2.1 hc
  have g2 := order2_spec d b1 c s1 hn.2.1 hc (by omega)
  generalize Go.Sort.order2 Go.Sort.ltInt d b1 c s1 = r2 at *
  obtain ⟨b2, c2, s2⟩ := r2
  simp only at hn2 g2 ⊢
  have hn3 := order2_bound d a1 b2 s2 d.size hn.1 hn2.1
  have g3 := order2_spec d a1 b2 s2 hn.1 hn2.1 (by omega)
  generalize Go.Sort.order2 Go.Sort.ltInt d a1 b2 s2 = r3 at *
  obtain ⟨a3, b3, s3⟩ := r3
  simp only at hn3 g3 ⊢
  simp -dsimp [↓callm_fn, slices_medianOrdered_int.ir]
  refine DC.mono g1 fun r H ⟨hr, hH⟩ => ?_
  subst hr hH
  simp -dsimp [↓callm_fn]
  refine DC.mono g2 fun r H ⟨hr, hH⟩ => ?_
  subst hr hH
  simp -dsimp [↓callm_fn]
  refine DC.mono g3 fun r H ⟨hr, hH⟩ => ?_
  subst hr hH
  simp -dsimp [slices_medianOrdered_int.rs]

theorem median_bound (d : Array Int) (a b c s n : Nat) (ha : a < n) (hb : b < n) (hc : c < n) : (Go.Sort.median Go.Sort.ltInt d a b c s).1 < n ∧ (Go.Sort.median Go.Sort.ltInt d a b c s).2 ≤ s + 3 := by
  have h1 := order2_bound d a b s n ha hb
  unfold Go.Sort.median
  simp only
  generalize Go.Sort.order2 Go.Sort.ltInt d a b s = r1 at *
  have h2 := order2_bound d r1.2.1 c r1.2.2 n h1.2.1 hc
  generalize Go.Sort.order2 Go.Sort.ltInt d r1.2.1 c r1.2.2 = r2 at *
  have h3 := order2_bound d r1.1 r2.1 r2.2.2 n h1.1 h2.1
  generalize Go.Sort.order2 Go.Sort.ltInt d r1.1 r2.1 r2.2.2 = r3 at *
  exact ⟨h3.2.1, by omega⟩

theorem medianAdj_spec (d : Array Int) (a s : Nat) (h1 : 1 ≤ a) (ha : a + 1 < d.size) (hz : d.size ≤ 4611686018427387904) (hs : s ≤ 900) :
    DC Tryz.prog slices_medianAdjacentOrdered_int.id [dataV d.size, vi a, .ptr 1 1 0 0] [rowsO d, swO s] (fun r H => r = vi (Go.Sort.medianAdjacent Go.Sort.ltInt d a s).1 ∧ H = [rowsO d, swO (Go.Sort.medianAdjacent Go.Sort.ltInt d a s).2]) := by
  refine DC.of slices_medianAdjacentOrdered_int.ok (by simp) ?_
  have hw : IntKind.i64.wrap ((a : Int) + 1) = ((a + 1 : Nat) : Int) := by rw [wrap64] <;> omega
  have hw2 : IntKind.i64.wrap ((a : Int) - 1) = ((a - 1 : Nat) : Int) := by rw [wrap64] <;> omega
  have g := median_spec d (a - 1) a (a + 1) s (by omega) (by omega) ha hs
  unfold Go.Sort.medianAdjacent
  generalize Go.Sort.median Go.Sort.ltInt d (a - 1) a (a + 1) s = r at *
  obtain ⟨m, s'⟩ := r
  have e1 : ((a - 1 : Nat) : Int) = ((a - 1 : Nat) : Int) := rfl
  simp -dsimp [↓callm_fn, slices_medianAdjacentOrdered_int.ir, hw, hw2]
  refine DC.mono g fun r H ⟨hr, hH⟩ => ?_
  subst hr hH
  simp -dsimp [slices_medianAdjacentOrdered_int.rs]
end Go.Abs.G


namespace Go.Abs.G
open Go.Proofs
attribute [local simp] I.vc sub merge place
set_option linter.unusedVariables false
set_option linter.unusedSimpArgs false

def hintN : Go.Sort.Hint → Int
  | .unknown => 0
  | .increasing => 1
  | .decreasing => 2

theorem medianAdj_bound (d : Array Int) (a s n : Nat) (h1 : 1 ≤ a) (ha : a + 1 < n) : (Go.Sort.medianAdjacent Go.Sort.ltInt d a s).1 < n ∧ (Go.Sort.medianAdjacent Go.Sort.ltInt d a s).2 ≤ s + 3 :=
  median_bound d (a - 1) a (a + 1) s n (by omega) (by omega) ha

theorem choosePivot_spec (d : Array Int) (a b : Nat) (hab : a + 12 < b) (hb : b ≤ d.size) (hz : d.size ≤ 4611686018427387904) :
    DC Tryz.prog slices_choosePivotOrdered_int.id [dataV d.size, vi a, vi b] [rowsO d] (fun r H => r = .tup [vi (Go.Sort.choosePivot Go.Sort.ltInt d a b).1, vi (hintN (Go.Sort.choosePivot Go.Sort.ltInt d a b).2)] ∧ ∃ o, H = [rowsO d, o]) := by
  refine DC.of slices_choosePivotOrdered_int.ok (by simp) ?_
  unfold slices_choosePivotOrdered_int.ir
  obtain ⟨l, hl⟩ : ∃ l, l = b - a := ⟨_, rfl⟩
  have w0 : IntKind.i64.wrap ((b : Int) - a) = (l : Int) := by rw [wrap64] <;> omega
  have y0 : IntKind.i64.wrap ((l : Int) / 4) = (l : Int) / 4 := by rw [wrap64] <;> omega
  have y2 : IntKind.i64.wrap ((l : Int) / 4 * 2) = (l : Int) / 4 * 2 := by rw [wrap64] <;> omega
  have y3 : IntKind.i64.wrap ((l : Int) / 4 * 3) = (l : Int) / 4 * 3 := by rw [wrap64] <;> omega
  have x1 : IntKind.i64.wrap ((a : Int) + (l : Int) / 4) = (a : Int) + (l : Int) / 4 := by rw [wrap64] <;> omega
  have x2 : IntKind.i64.wrap ((a : Int) + (l : Int) / 4 * 2) = (a : Int) + (l : Int) / 4 * 2 := by rw [wrap64] <;> omega
  have x3 : IntKind.i64.wrap ((a : Int) + (l : Int) / 4 * 3) = (a : Int) + (l : Int) / 4 * 3 := by rw [wrap64] <;> omega
  refine vc_cut (fun s => gt s.sl 0 = dataV d.size ∧ gt s.sl 1 = vi a ∧ gt s.sl 2 = vi b ∧ s.hp = [rowsO d]) (by simp -dsimp) ?_
  rintro ⟨sl, hp, bs⟩ ⟨h0, h1, h2, rfl⟩
  refine vc_cut (fun s => gt s.sl 0 = dataV d.size ∧ gt s.sl 1 = vi a ∧ gt s.sl 8 = vi l ∧ s.hp = [rowsO d]) (by simp -dsimp [h0, h1, h2, w0]) ?_
  rintro ⟨sl, hp, bs⟩ ⟨h0, h1, h8, rfl⟩
  refine vc_cut (fun s => gt s.sl 0 = dataV d.size ∧ gt s.sl 1 = vi a ∧ gt s.sl 8 = vi l ∧ gt s.sl 9 = .ptr 1 1 0 0 ∧ s.hp = [rowsO d, swO 0]) (by simp -dsimp [h0, h1, h8]) ?_
  rintro ⟨sl, hp, bs⟩ ⟨h0, h1, h8, h9, rfl⟩
  refine vc_cut (fun s => gt s.sl 0 = dataV d.size ∧ gt s.sl 1 = vi a ∧ gt s.sl 8 = vi l ∧ gt s.sl 9 = .ptr 1 1 0 0 ∧ gt s.sl 10 = vi (a + l / 4 * 1 : Nat) ∧ s.hp = [rowsO d, swO 0]) (by simp -dsimp [h0, h1, h8, h9, y0, x1]) ?_
  rintro ⟨sl, hp, bs⟩ ⟨h0, h1, h8, h9, h10, rfl⟩
  refine vc_cut (fun s => gt s.sl 0 = dataV d.size ∧ gt s.sl 1 = vi a ∧ gt s.sl 8 = vi l ∧ gt s.sl 9 = .ptr 1 1 0 0 ∧ gt s.sl 10 = vi (a + l / 4 * 1 : Nat) ∧ gt s.sl 11 = vi (a + l / 4 * 2 : Nat) ∧ s.hp = [rowsO d, swO 0]) (by simp -dsimp [h0, h1, h8, h9, h10, y0, y2, x2]) ?_
  rintro ⟨sl, hp, bs⟩ ⟨h0, h1, h8, h9, h10, h11, rfl⟩
  refine vc_cut (fun s => gt s.sl 0 = dataV d.size ∧ gt s.sl 8 = vi l ∧ gt s.sl 9 = .ptr 1 1 0 0 ∧ gt s.sl 10 = vi (a + l / 4 * 1 : Nat) ∧ gt s.sl 11 = vi (a + l / 4 * 2 : Nat) ∧ gt s.sl 12 = vi (a + l / 4 * 3 : Nat) ∧ s.hp = [rowsO d, swO 0]) (by simp -dsimp [h0, h1, h8, h9, h10, h11, y0, y3, x3]) ?_
  rintro ⟨sl, hp, bs⟩ ⟨h0, h8, h9, h10, h11, h12, rfl⟩
  have hc : Go.Sort.choosePivot Go.Sort.ltInt d a b = ((if l ≥ 50 then
        let ri := Go.Sort.medianAdjacent Go.Sort.ltInt d (a + l / 4 * 1) 0
        let rj := Go.Sort.medianAdjacent Go.Sort.ltInt d (a + l / 4 * 2) ri.2
        let rk := Go.Sort.medianAdjacent Go.Sort.ltInt d (a + l / 4 * 3) rj.2
        Go.Sort.median Go.Sort.ltInt d ri.1 rj.1 rk.1 rk.2
      else Go.Sort.median Go.Sort.ltInt d (a + l / 4 * 1) (a + l / 4 * 2) (a + l / 4 * 3) 0 : Nat × Nat).1, if (if l ≥ 50 then
        let ri := Go.Sort.medianAdjacent Go.Sort.ltInt d (a + l / 4 * 1) 0
        let rj := Go.Sort.medianAdjacent Go.Sort.ltInt d (a + l / 4 * 2) ri.2
        let rk := Go.Sort.medianAdjacent Go.Sort.ltInt d (a + l / 4 * 3) rj.2
        Go.Sort.median Go.Sort.ltInt d ri.1 rj.1 rk.1 rk.2
      else Go.Sort.median Go.Sort.ltInt d (a + l / 4 * 1) (a + l / 4 * 2) (a + l / 4 * 3) 0 : Nat × Nat).2 = 0 then .increasing else if (if l ≥ 50 then
        let ri := Go.Sort.medianAdjacent Go.Sort.ltInt d (a + l / 4 * 1) 0
        let rj := Go.Sort.medianAdjacent Go.Sort.ltInt d (a + l / 4 * 2) ri.2
        let rk := Go.Sort.medianAdjacent Go.Sort.ltInt d (a + l / 4 * 3) rj.2
        Go.Sort.median Go.Sort.ltInt d ri.1 rj.1 rk.1 rk.2
      else Go.Sort.median Go.Sort.ltInt d (a + l / 4 * 1) (a + l / 4 * 2) (a + l / 4 * 3) 0 : Nat × Nat).2 = 12 then .decreasing else .unknown) := by
    unfold Go.Sort.choosePivot
    simp only [← hl]
    rw [if_pos (show l ≥ 8 by omega)]
  rw [hc]
  have i8 : (8 : Int) ≤ l := by omega
  generalize hI : a + l / 4 * 1 = I at *
  generalize hJ : a + l / 4 * 2 = J at *
  generalize hK : a + l / 4 * 3 = K at *
  obtain ⟨r, hr⟩ : ∃ r : Nat × Nat, (if l ≥ 50 then
        let ri := Go.Sort.medianAdjacent Go.Sort.ltInt d I 0
        let rj := Go.Sort.medianAdjacent Go.Sort.ltInt d J ri.2
        let rk := Go.Sort.medianAdjacent Go.Sort.ltInt d K rj.2
        Go.Sort.median Go.Sort.ltInt d ri.1 rj.1 rk.1 rk.2
      else Go.Sort.median Go.Sort.ltInt d I J K 0) = r := ⟨_, rfl⟩
  rw [hr]
  refine vc_cut (fun s => gt s.sl 9 = .ptr 1 1 0 0 ∧ gt s.sl 11 = vi r.1 ∧ s.hp = [rowsO d, swO r.2]) ?_ ?_
  · by_cases h50 : 50 ≤ l
    · have i50 : (50 : Int) ≤ l := by omega
      rw [if_pos h50] at hr
      have b1 := medianAdj_bound d I 0 d.size (by omega) (by omega)
      have s1 := medianAdj_spec d I 0 (by omega) (by omega) hz (by omega)
      simp only at hr
      generalize Go.Sort.medianAdjacent Go.Sort.ltInt d I 0 = r1 at b1 s1 hr
      obtain ⟨I', t1⟩ := r1
      have b2 := medianAdj_bound d J t1 d.size (by omega) (by omega)
      have s2 := medianAdj_spec d J t1 (by omega) (by omega) hz (by simp at b1; omega)
      simp only at hr
      generalize Go.Sort.medianAdjacent Go.Sort.ltInt d J t1 = r2 at b2 s2 hr
      obtain ⟨J', t2⟩ := r2
      have b3 := medianAdj_bound d K t2 d.size (by omega) (by omega)
      have s3 := medianAdj_spec d K t2 (by omega) (by omega) hz (by simp at b1 b2; omega)
      simp only at hr
      generalize Go.Sort.medianAdjacent Go.Sort.ltInt d K t2 = r3 at b3 s3 hr
      obtain ⟨K', t3⟩ := r3
      simp only at b1 b2 b3 s1 s2 s3
      have s4 := median_spec d I' J' K' t3 b1.1 b2.1 b3.1 (by omega)
      simp only at hr
      rw [hr] at s4
      obtain ⟨M, t4⟩ := r
      simp only at s4
      simp -dsimp [↓callm_fn, h0, h8, h9, h10, h11, h12, i8, i50]
      refine DC.mono s1 fun r H ⟨hr, hH⟩ => ?_
      subst hr hH
      simp -dsimp [↓callm_fn, h0, h8, h9, h10, h11, h12]
      refine DC.mono s2 fun r H ⟨hr, hH⟩ => ?_
      subst hr hH
      simp -dsimp [↓callm_fn, h0, h8, h9, h10, h11, h12]
      refine DC.mono s3 fun r H ⟨hr, hH⟩ => ?_
      subst hr hH
      simp -dsimp [↓callm_fn, h0, h8, h9, h10, h11, h12]
      refine DC.mono s4 fun r H ⟨hr, hH⟩ => ?_
      subst hr hH
      simp -dsimp [h0, h8, h9, h10, h11, h12]
    · have i50 : ¬ (50 : Int) ≤ l := by omega
      rw [if_neg h50] at hr
      have s4 := median_spec d I J K 0 (by omega) (by omega) (by omega) (by omega)
      rw [hr] at s4
      obtain ⟨M, t4⟩ := r
      simp only at s4
      simp -dsimp [↓callm_fn, h0, h8, h9, h10, h11, h12, i8, i50]
      refine DC.mono s4 fun r H ⟨hr, hH⟩ => ?_
      subst hr hH
      simp -dsimp [h0, h8, h9, h10, h11, h12]
  rintro ⟨sl, hp, bs⟩ ⟨h9, h11, rfl⟩
  clear hr hc
  obtain ⟨M, t⟩ := r
  by_cases ht0 : t = 0
  · subst ht0
    simp -dsimp [h9, h11, slices_choosePivotOrdered_int.rs, hintN]
  · have i0 : ¬ (t : Int) = 0 := by omega
    by_cases ht : t = 12
    · subst ht
      simp -dsimp [h9, h11, slices_choosePivotOrdered_int.rs, hintN]
    · have i12 : ¬ (t : Int) = 12 := by omega
      simp -dsimp [h9, h11, slices_choosePivotOrdered_int.rs, hintN, ht0, i0, ht, i12]
end Go.Abs.G


namespace Go.Abs.G
open Go.Proofs
attribute [local simp] I.vc sub merge place
set_option linter.unusedVariables false
set_option linter.unusedSimpArgs false

@[simp] theorem ren_comp (f : Nat → Nat) : ((fun r => V.renL f r) ∘ fun n : Int => [V.a (Value.int IntKind.i64 n)]) = fun n => [V.a (Value.int IntKind.i64 n)] := by
  funext n; simp [V.renL, V.ren]

theorem siftDown_size (hi first : Nat) : ∀ (k root : Nat) (d : Array Int), hi - root ≤ k → (Go.Sort.siftDown Go.Sort.ltInt hi first root d).size = d.size := by
  intro k
  induction k with
  | zero =>
    intro root d h
    rw [Go.Sort.siftDown, dif_pos (by omega)]
  | succ k ih =>
    intro root d h
    rw [Go.Sort.siftDown]
    split
    · rfl
    · split
      · split
        · rfl
        · split
          · rw [ih _ _ (by omega), swp_size]
          · rfl
      · split
        · rfl
        · rw [ih _ _ (by omega), swp_size]

theorem sift_spec (d : Array Int) (lo hi first : Nat) (hf : first + hi ≤ d.size) (hlo : lo ≤ d.size) (hs : d.size ≤ 1152921504606846976) :
    DC Tryz.prog slices_siftDownOrdered_int.id [dataV d.size, vi lo, vi hi, vi first] [rowsO d] (fun r H => H = [rowsO (Go.Sort.siftDown Go.Sort.ltInt hi first lo d)]) := by
  refine DC.of slices_siftDownOrdered_int.ok (by simp) ?_
  obtain ⟨S, hS⟩ : ∃ S, Go.Sort.siftDown Go.Sort.ltInt hi first lo d = S := ⟨_, rfl⟩
  rw [hS]
  simp -dsimp [↓loop_f, slices_siftDownOrdered_int.ir, slices_siftDownOrdered_int.rs]
  refine WI.loop 1 (by simp) (fun s => ∃ (root : Nat) (d' : Array Int), root ≤ d.size ∧ d'.size = d.size ∧ gt s.sl 0 = dataV d.size ∧ gt s.sl 2 = vi hi ∧ gt s.sl 3 = vi first ∧ gt s.sl 8 = vi root ∧ s.hp = [rowsO d'] ∧ S = Go.Sort.siftDown Go.Sort.ltInt hi first root d') (fun s => (hi - (gt s.sl 8).num).toNat) ?_ ?_
  · exact ⟨lo, d, hlo, rfl, by simp, by simp, by simp, by simp, rfl, hS.symm⟩
  · rintro ⟨sl, hp, bs⟩ ⟨root, d', hroot, hd, h0, h2, h3, h8, rfl, he⟩
    have g8 := h8
    rw [Go.Sort.siftDown] at he
    have w1 : IntKind.i64.wrap (2 * (root : Int)) = ((2 * root : Nat) : Int) := by rw [wrap64] <;> omega
    have w2 : IntKind.i64.wrap (2 * (root : Int) + 1) = ((2 * root + 1 : Nat) : Int) := by rw [wrap64] <;> omega
    unfold slices_siftDownOrdered_int.b0
    refine vc_block_of (vc_cut (fun s => gt s.sl 0 = dataV d.size ∧ gt s.sl 2 = vi hi ∧ gt s.sl 3 = vi first ∧ gt s.sl 8 = vi root ∧ gt s.sl 9 = vi (2 * root + 1 : Nat) ∧ s.hp = [rowsO d']) (by simp -dsimp [h0, h2, h3, h8, w1, w2]) ?_)
    rintro ⟨sl, hp, bs⟩ ⟨h0, h2, h3, h8, h9, rfl⟩
    by_cases hge : 2 * root + 1 ≥ hi
    · rw [dif_pos hge] at he
      have i1 : (hi : Int) ≤ 2 * (root : Int) + 1 := by omega
      simp -dsimp [h0, h2, h3, h8, h9, i1, he]
    rw [dif_neg hge] at he
    have i1 : ¬ (hi : Int) ≤ 2 * (root : Int) + 1 := by omega
    refine vc_cut (fun s => gt s.sl 0 = dataV d.size ∧ gt s.sl 2 = vi hi ∧ gt s.sl 3 = vi first ∧ gt s.sl 8 = vi root ∧ gt s.sl 9 = vi (2 * root + 1 : Nat) ∧ s.hp = [rowsO d']) (by simp -dsimp [h0, h2, h3, h8, h9, i1]) ?_
    rintro ⟨sl, hp, bs⟩ ⟨h0, h2, h3, h8, h9, rfl⟩
    have k1 : first + (2 * root + 1) < d'.size := by omega
    have k0 : first + root < d'.size := by omega
    -- which child
    refine vc_cut (fun s => gt s.sl 0 = dataV d.size ∧ gt s.sl 2 = vi hi ∧ gt s.sl 3 = vi first ∧ gt s.sl 8 = vi root ∧ (∃ c : Nat, gt s.sl 9 = vi c ∧ root < c ∧ c < hi ∧ S = (if (!Go.Sort.ltInt d'[first + root]! d'[first + c]!) = true then d' else Go.Sort.siftDown Go.Sort.ltInt hi first c (Go.Sort.swp d' (first + root) (first + c)))) ∧ s.hp = [rowsO d']) ?_ ?_
    · have w3 : IntKind.i64.wrap (2 * (root : Int) + 1 + 1) = ((2 * root + 2 : Nat) : Int) := by rw [wrap64] <;> omega
      by_cases h2lt : 2 * root + 1 + 1 < hi
      · have i2 : 2 * (root : Int) + 2 < hi := by omega
        have k2 : first + (2 * root + 1) + 1 < d'.size := by omega
        have k1' : first + (2 * root + 1) < d.size := by omega
        have k2' : first + (2 * root + 1) + 1 < d.size := by omega
        obtain ⟨p, hp⟩ : ∃ p : Nat, first + (2 * root + 1) = p := ⟨_, rfl⟩
        rw [hp] at k2 k1' k2' k1 he
        have w4 : IntKind.i64.wrap ((first : Int) + (2 * (root : Int) + 1)) = (p : Int) := by rw [wrap64] <;> omega
        have w5 : IntKind.i64.wrap ((p : Int) + 1) = ((p + 1 : Nat) : Int) := by rw [wrap64] <;> omega
        have k5 : (p : Int) + 1 < d.size := by omega
        have k6 : (0 : Int) ≤ (p : Int) + 1 := by omega
        rw [get_bang d' k1, get_bang d' k2] at he
        simp -dsimp [↓call_f, h0, h2, h3, h8, h9, hd, w3, i2, w4, w5, k1', k2', k5, k6]
        refine (less_spec d'[p] d'[p + 1]).use ?_
        have wc : IntKind.i64.wrap (2 * (root : Int) + 1 + 1) = 2 * (root : Int) + 2 := by rw [wrap64] <;> omega
        by_cases hlt : Go.Sort.ltInt d'[p] d'[p + 1] = true
        · rw [hlt, if_pos (by simp; omega)] at he
          simp -dsimp [hlt, h0, h2, h3, h8, h9]
          refine ⟨2 * root + 2, by omega, by omega, by omega, ?_⟩
          rw [dif_pos (show 2 * root + 2 < hi by omega)] at he
          rw [he]
          cases Go.Sort.ltInt d'[first + root]! d'[first + (2 * root + 2)]! <;> rfl
        · have hlt : Go.Sort.ltInt d'[p] d'[p + 1] = false := by simpa using hlt
          rw [hlt, if_neg (by simp)] at he
          simp -dsimp [hlt, h0, h2, h3, h8, h9]
          refine ⟨2 * root + 1, by omega, by omega, by omega, ?_⟩
          rw [he, hp, get_bang d' k1]
          cases Go.Sort.ltInt d'[first + root]! d'[p] <;> rfl
      · have i2 : ¬ 2 * (root : Int) + 2 < hi := by omega
        rw [if_neg (by simp; omega)] at he
        simp -dsimp [↓call_f, h0, h2, h3, h8, h9, w3, i2]
        refine ⟨2 * root + 1, by omega, by omega, by omega, ?_⟩
        rw [he]
        cases Go.Sort.ltInt d'[first + root]! d'[first + (2 * root + 1)]! <;> rfl
    clear h0 h2 h3 h8 h9
    rintro ⟨sl, hp, bs⟩ ⟨h0, h2, h3, h8, ⟨c, h9, hc1, hc2, he⟩, rfl⟩
    have k3 : first + c < d'.size := by omega
    have hne : ¬ first + root = first + c := by omega
    obtain ⟨p, hp⟩ : ∃ p : Nat, first + root = p := ⟨_, rfl⟩
    obtain ⟨q, hq⟩ : ∃ q : Nat, first + c = q := ⟨_, rfl⟩
    rw [hp] at k0 hne he
    rw [hq] at k3 hne he
    have w6 : IntKind.i64.wrap ((first : Int) + root) = (p : Int) := by rw [wrap64] <;> omega
    have w7 : IntKind.i64.wrap ((first : Int) + c) = (q : Int) := by rw [wrap64] <;> omega
    have k3' : q < d.size := by omega
    have k0' : p < d.size := by omega
    have hsw := swp_rows d' k0 k3
    rw [get_bang d' k0, get_bang d' k3] at he
    simp -dsimp [↓call_f, h0, h2, h3, h8, h9, hd, w6, w7, k0', k3']
    refine (less_spec d'[p] d'[q]).use ?_
    by_cases hlt : Go.Sort.ltInt d'[p] d'[q] = true
    · rw [hlt] at he
      simp -dsimp [hlt, h0, h2, h3, h8, h9, hd, w6, w7, k0', k3', hne, List.getElem_set, g8]
      exact ⟨⟨c, by omega, Go.Sort.swp d' p q, by rw [swp_size]; exact hd, rfl, hsw, by simpa using he⟩, by omega⟩
    · have hlt : Go.Sort.ltInt d'[p] d'[q] = false := by simpa using hlt
      rw [hlt] at he
      have he : S = d' := by simpa using he
      simp -dsimp [hlt, h0, h2, h3, h8, h9, he]

theorem heapBuild_size (hi first : Nat) : ∀ (k : Nat) (d : Array Int), (Go.Sort.heapBuild Go.Sort.ltInt hi first k d).size = d.size := by
  intro k
  induction k with
  | zero => intro d; rfl
  | succ k ih => intro d; simp only [Go.Sort.heapBuild]; rw [ih, siftDown_size hi first (hi - k) k d (Nat.le_refl _)]

set_option maxHeartbeats 1000000 in
theorem heap_spec (d : Array Int) (a b : Nat) (hab : a < b) (hb : b ≤ d.size) (hs : d.size ≤ 1152921504606846976) :
    DC Tryz.prog slices_heapSortOrdered_int.id [dataV d.size, vi a, vi b] [rowsO d] (fun r H => H = [rowsO (Go.Sort.heapSort Go.Sort.ltInt d a b)]) := by
  refine DC.of slices_heapSortOrdered_int.ok (by simp) ?_
  obtain ⟨l, hl⟩ : ∃ l, b - a = l := ⟨_, rfl⟩
  obtain ⟨S, hS⟩ : ∃ S, Go.Sort.heapSort Go.Sort.ltInt d a b = S := ⟨_, rfl⟩
  rw [hS]
  unfold Go.Sort.heapSort at hS
  rw [hl] at hS
  have w0 : IntKind.i64.wrap ((b : Int) - a) = (l : Int) := by rw [wrap64] <;> omega
  have w1 : IntKind.i64.wrap ((l : Int) - 1) = ((l - 1 : Nat) : Int) := by rw [wrap64] <;> omega
  have w2 : IntKind.i64.wrap (((l - 1 : Nat) : Int) / 2) = (((l - 1) / 2 : Nat) : Int) := by
    rw [wrap64] <;> omega
  unfold slices_heapSortOrdered_int.ir
  refine vc_cut (fun s => gt s.sl 0 = dataV d.size ∧ gt s.sl 1 = vi a ∧ gt s.sl 2 = vi b ∧ gt s.sl 6 = vi a ∧ s.hp = [rowsO d]) (by simp -dsimp) ?_
  rintro ⟨sl, hp, bs⟩ ⟨h0, h1, h2, h6, rfl⟩
  refine vc_cut (fun s => gt s.sl 0 = dataV d.size ∧ gt s.sl 1 = vi a ∧ gt s.sl 2 = vi b ∧ gt s.sl 6 = vi a ∧ gt s.sl 7 = vi 0 ∧ s.hp = [rowsO d]) (by simp -dsimp [h0, h1, h2, h6]) ?_
  rintro ⟨sl, hp, bs⟩ ⟨h0, h1, h2, h6, h7, rfl⟩
  refine vc_cut (fun s => gt s.sl 0 = dataV d.size ∧ gt s.sl 6 = vi a ∧ gt s.sl 7 = vi 0 ∧ gt s.sl 8 = vi l ∧ s.hp = [rowsO d]) (by simp -dsimp [h0, h1, h2, h6, h7, w0]) ?_
  rintro ⟨sl, hp, bs⟩ ⟨h0, h6, h7, h8, rfl⟩
  obtain ⟨m, hm⟩ : ∃ m, l - 1 = m := ⟨_, rfl⟩
  obtain ⟨k, hk⟩ : ∃ k, m / 2 = k := ⟨_, rfl⟩
  rw [hm] at w1 w2 hS
  rw [hk] at w2 hS
  obtain ⟨B, hB⟩ : ∃ B, Go.Sort.heapBuild Go.Sort.ltInt l a (k + 1) d = B := ⟨_, rfl⟩
  rw [hB] at hS
  have hBs : B.size = d.size := by rw [← hB, heapBuild_size]
  refine vc_cut (fun s => gt s.sl 0 = dataV d.size ∧ gt s.sl 6 = vi a ∧ gt s.sl 7 = vi 0 ∧ gt s.sl 8 = vi l ∧ s.hp = [rowsO B]) ?_ ?_
  · simp -dsimp [↓loop_f, h0, h6, h7, h8, w1, w2]
    refine WI.mono (Q := fun e s => e = .exit 0 ∧ gt s.sl 0 = dataV d.size ∧ gt s.sl 6 = vi a ∧ gt s.sl 7 = vi 0 ∧ gt s.sl 8 = vi l ∧ s.hp = [rowsO B]) (WI.loop 1 (by simp) (fun s => ∃ (r : Nat) (d' : Array Int), r ≤ k + 1 ∧ d'.size = d.size ∧ gt s.sl 0 = dataV d.size ∧ gt s.sl 6 = vi a ∧ gt s.sl 7 = vi 0 ∧ gt s.sl 8 = vi l ∧ gt s.sl 9 = vi ((r : Int) - 1) ∧ s.hp = [rowsO d'] ∧ B = Go.Sort.heapBuild Go.Sort.ltInt l a r d') (fun s => ((gt s.sl 9).num + 1).toNat) ?_ ?_) ?_
    · exact ⟨k + 1, d, Nat.le_refl _, rfl, by simp, by simp, by simp, by simp, by simp, rfl, hB.symm⟩
    · clear h0 h6 h7 h8
      rintro ⟨sl, hp, bs⟩ ⟨r, d', hr, hd, h0, h6, h7, h8, h9, rfl, he⟩
      cases r with
      | zero =>
        have he : B = d' := he
        have e9 : ((0 : Nat) : Int) - 1 = -1 := rfl
        rw [e9] at h9
        simp -dsimp [slices_heapSortOrdered_int.b0, h0, h6, h7, h8, h9, he]
      | succ r =>
        have e9 : ((r + 1 : Nat) : Int) - 1 = (r : Int) := by omega
        rw [e9] at h9
        have hw : IntKind.i64.wrap ((r : Int) - 1) = (r : Int) - 1 := by rw [wrap64] <;> omega
        have hsp := sift_spec d' r l a (by omega) (by omega) (by omega)
        rw [hd] at hsp
        simp -dsimp [↓callm_fn, slices_heapSortOrdered_int.b0, h0, h6, h7, h8, h9]
        refine DC.mono hsp fun _ H hH => ?_
        subst hH
        simp -dsimp [h0, h6, h7, h8, h9, hw]
        exact ⟨⟨r, by omega, Go.Sort.siftDown Go.Sort.ltInt l a r d', by rw [siftDown_size l a (l - r) r d' (Nat.le_refl _)]; exact hd, rfl, rfl, he⟩, by omega⟩
    · rintro e ⟨sl, hp, bs⟩ ⟨rfl, h0, h6, h7, h8, rfl⟩
      simp [h0, h6, h7, h8]
  clear h0 h6 h7 h8
  rintro ⟨sl, hp, bs⟩ ⟨h0, h6, h7, h8, rfl⟩
  simp -dsimp [↓loop_f, h0, h6, h7, h8, w1]
  refine WI.mono (Q := fun e s => e = .exit 2 ∧ s.hp = [rowsO S]) (WI.loop 1 (by simp) (fun s => ∃ (r : Nat) (d' : Array Int), r ≤ l ∧ d'.size = d.size ∧ gt s.sl 0 = dataV d.size ∧ gt s.sl 6 = vi a ∧ gt s.sl 7 = vi 0 ∧ gt s.sl 10 = vi ((r : Int) - 1) ∧ s.hp = [rowsO d'] ∧ S = Go.Sort.heapPop Go.Sort.ltInt a r d') (fun s => ((gt s.sl 10).num + 1).toNat) ?_ ?_) ?_
  · exact ⟨l, B, Nat.le_refl _, hBs, by simp, by simp, by simp, by simp; omega, rfl, hS.symm⟩
  · clear h0 h6 h7 h8
    rintro ⟨sl, hp, bs⟩ ⟨r, d', hr, hd, h0, h6, h7, h9, rfl, he⟩
    cases r with
    | zero =>
      have he : S = d' := he
      have e9 : ((0 : Nat) : Int) - 1 = -1 := rfl
      rw [e9] at h9
      simp -dsimp [slices_heapSortOrdered_int.b1, h0, h6, h7, h9, he]
    | succ r =>
      have e9 : ((r + 1 : Nat) : Int) - 1 = (r : Int) := by omega
      rw [e9] at h9
      obtain ⟨q, hq⟩ : ∃ q, a + r = q := ⟨_, rfl⟩
      have he : S = Go.Sort.heapPop Go.Sort.ltInt a r (Go.Sort.siftDown Go.Sort.ltInt r a 0 (Go.Sort.swp d' a (a + r))) := he
      rw [hq] at he
      have hw : IntKind.i64.wrap ((r : Int) - 1) = (r : Int) - 1 := by rw [wrap64] <;> omega
      have hwq : IntKind.i64.wrap ((a : Int) + r) = (q : Int) := by rw [wrap64] <;> omega
      have ka : a < d'.size := by omega
      have kq : q < d'.size := by omega
      have ka' : a < d.size := by omega
      have kq' : q < d.size := by omega
      have hsw := swp_rows d' ka kq
      have hrows : rowsO (Go.Sort.swp d' a q) = .mem false [] (((d'.toList.map fun n => [V.a (.int .i64 n)]).set a [V.a (.int .i64 d'[q])]).set q [V.a (.int .i64 d'[a])]) := by rw [hsw]
      have hsp := sift_spec (Go.Sort.swp d' a q) 0 r a (by rw [swp_size]; omega) (by omega) (by rw [swp_size]; omega)
      obtain ⟨D, hD⟩ : ∃ D, Go.Sort.siftDown Go.Sort.ltInt r a 0 (Go.Sort.swp d' a q) = D := ⟨_, rfl⟩
      have hDs : D.size = d.size := by rw [← hD, siftDown_size r a (r - 0) 0 _ (Nat.le_refl _), swp_size]; exact hd
      rw [hD] at he hsp
      have h00 : ((0 : Nat) : Int) = 0 := rfl
      rw [swp_size, hd, hrows, h00] at hsp
      by_cases haq : a = q
      · have hrr : r = 0 := by omega
        clear hrows hsw hD
        subst haq
        simp only [List.set_set] at hsp
        simp -dsimp [↓callm_fn, slices_heapSortOrdered_int.b1, h0, h6, h7, h9, hd, hwq, ka', kq', List.getElem_set]
        refine DC.mono hsp fun _ H hH => ?_
        subst hH
        simp -dsimp [h0, h6, h7, h9, hw, hd, hwq, ka', kq', List.getElem_set]
        exact ⟨⟨r, by omega, D, hDs, rfl, rfl, he⟩, by omega⟩
      · clear hrows hsw hD
        simp -dsimp [↓callm_fn, slices_heapSortOrdered_int.b1, h0, h6, h7, h9, hd, hwq, ka', kq', haq, List.getElem_set]
        refine DC.mono hsp fun _ H hH => ?_
        subst hH
        simp -dsimp [h0, h6, h7, h9, hw, hd, hwq, ka', kq', haq, List.getElem_set]
        exact ⟨⟨r, by omega, D, hDs, rfl, rfl, he⟩, by omega⟩
  · rintro e ⟨sl, hp, bs⟩ ⟨rfl, rfl⟩
    simp [slices_heapSortOrdered_int.rs]
end Go.Abs.G


namespace Go.Abs.G
open Go.Proofs
attribute [local simp] I.vc sub merge place
set_option linter.unusedVariables false
set_option linter.unusedSimpArgs false

theorem part_up0 {n a i j : Nat} (hs : n ≤ 1152921504606846976) (ha : a < n) (hj : j < n) (hi : i ≤ j + 1) (d : Array Int) (hd : d.size = n) (Q : Ex → St → Prop) (sl : Sl) (bs : Nat)
    (h0 : gt sl 0 = dataV n) (h1 : gt sl 1 = vi a) (h10 : gt sl 10 = vi i) (h11 : gt sl 11 = vi j)
    (hq : ∀ s, gt s.sl 0 = dataV n → gt s.sl 1 = vi a → gt s.sl 10 = vi (Go.Sort.scanUp (fun x => Go.Sort.ltInt x d[a]!) d j i : Nat) → gt s.sl 11 = vi j → s.hp = [rowsO d] → Q (.exit 0) s) :
    WI Tryz.prog (.loop slices_partitionOrdered_int.b0) Q ⟨sl, [rowsO d], bs⟩ := by
  obtain ⟨S, hS⟩ : ∃ S, Go.Sort.scanUp (fun x => Go.Sort.ltInt x d[a]!) d j i = S := ⟨_, rfl⟩
  rw [hS] at hq
  refine WI.loop 1 (by simp) (fun s => ∃ k : Nat, k ≤ j + 1 ∧ gt s.sl 0 = dataV n ∧ gt s.sl 1 = vi a ∧ gt s.sl 10 = vi k ∧ gt s.sl 11 = vi j ∧ s.hp = [rowsO d] ∧ S = Go.Sort.scanUp (fun x => Go.Sort.ltInt x d[a]!) d j k) (fun s => (j + 1 - (gt s.sl 10).num).toNat) ?_ ?_
  · exact ⟨i, hi, h0, h1, h10, h11, rfl, hS.symm⟩
  · clear h0 h1 h10 h11
    rintro ⟨sl, hp, bs⟩ ⟨k, hk, h0, h1, h10, h11, rfl, he⟩
    rw [Go.Sort.scanUp] at he
    by_cases hkj : k ≤ j
    · have kk : k < d.size := by omega
      have ka : a < d.size := by omega
      have kk' : k < n := by omega
      have hkj' : (k : Int) ≤ j := by omega
      have hw : IntKind.i64.wrap ((k : Int) + 1) = ((k + 1 : Nat) : Int) := by rw [wrap64] <;> omega
      rw [get_bang d kk, get_bang d ka] at he
      simp -dsimp [↓call_f, slices_partitionOrdered_int.b0, h0, h1, h10, h11, hkj, hkj', kk', ha, hd]
      refine (less_spec d[k] d[a]).use ?_
      by_cases hlt : Go.Sort.ltInt d[k] d[a] = true
      · simp only [hlt] at he
        rw [if_pos (by simp; omega)] at he
        simp -dsimp [hlt, h0, h1, h10, h11, hw]
        exact ⟨⟨k + 1, by omega, by omega, he⟩, by omega⟩
      · have hlt : Go.Sort.ltInt d[k] d[a] = false := by simpa using hlt
        simp only [hlt] at he
        rw [if_neg (by simp)] at he
        simp -dsimp [hlt, h0, h1, h10, h11]
        exact hq _ (by simp) (by simp) (by simp [he]) (by simp) (by simp)
    · have hkj' : ¬ (k : Int) ≤ j := by omega
      rw [if_neg (by simp; omega)] at he
      simp -dsimp [slices_partitionOrdered_int.b0, h0, h1, h10, h11, hkj, hkj']
      exact hq _ (by simp) (by simp) (by simp [he]) (by simp) (by simp)

theorem part_up3 {n a i j : Nat} (hs : n ≤ 1152921504606846976) (ha : a < n) (hj : j < n) (hi : i ≤ j + 1) (d : Array Int) (hd : d.size = n) (Q : Ex → St → Prop) (sl : Sl) (bs : Nat)
    (h0 : gt sl 0 = dataV n) (h1 : gt sl 1 = vi a) (h10 : gt sl 10 = vi i) (h11 : gt sl 11 = vi j)
    (hq : ∀ s, gt s.sl 0 = dataV n → gt s.sl 1 = vi a → gt s.sl 10 = vi (Go.Sort.scanUp (fun x => Go.Sort.ltInt x d[a]!) d j i : Nat) → gt s.sl 11 = vi j → s.hp = [rowsO d] → Q (.exit 6) s) :
    WI Tryz.prog (.loop slices_partitionOrdered_int.b3) Q ⟨sl, [rowsO d], bs⟩ := by
  obtain ⟨S, hS⟩ : ∃ S, Go.Sort.scanUp (fun x => Go.Sort.ltInt x d[a]!) d j i = S := ⟨_, rfl⟩
  rw [hS] at hq
  refine WI.loop 1 (by simp) (fun s => ∃ k : Nat, k ≤ j + 1 ∧ gt s.sl 0 = dataV n ∧ gt s.sl 1 = vi a ∧ gt s.sl 10 = vi k ∧ gt s.sl 11 = vi j ∧ s.hp = [rowsO d] ∧ S = Go.Sort.scanUp (fun x => Go.Sort.ltInt x d[a]!) d j k) (fun s => (j + 1 - (gt s.sl 10).num).toNat) ?_ ?_
  · exact ⟨i, hi, h0, h1, h10, h11, rfl, hS.symm⟩
  · clear h0 h1 h10 h11
    rintro ⟨sl, hp, bs⟩ ⟨k, hk, h0, h1, h10, h11, rfl, he⟩
    rw [Go.Sort.scanUp] at he
    by_cases hkj : k ≤ j
    · have kk : k < d.size := by omega
      have ka : a < d.size := by omega
      have kk' : k < n := by omega
      have hkj' : (k : Int) ≤ j := by omega
      have hw : IntKind.i64.wrap ((k : Int) + 1) = ((k + 1 : Nat) : Int) := by rw [wrap64] <;> omega
      rw [get_bang d kk, get_bang d ka] at he
      simp -dsimp [↓call_f, slices_partitionOrdered_int.b3, h0, h1, h10, h11, hkj, hkj', kk', ha, hd]
      refine (less_spec d[k] d[a]).use ?_
      by_cases hlt : Go.Sort.ltInt d[k] d[a] = true
      · simp only [hlt] at he
        rw [if_pos (by simp; omega)] at he
        simp -dsimp [hlt, h0, h1, h10, h11, hw]
        exact ⟨⟨k + 1, by omega, by omega, he⟩, by omega⟩
      · have hlt : Go.Sort.ltInt d[k] d[a] = false := by simpa using hlt
        simp only [hlt] at he
        rw [if_neg (by simp)] at he
        simp -dsimp [hlt, h0, h1, h10, h11]
        exact hq _ (by simp) (by simp) (by simp [he]) (by simp) (by simp)
    · have hkj' : ¬ (k : Int) ≤ j := by omega
      rw [if_neg (by simp; omega)] at he
      simp -dsimp [slices_partitionOrdered_int.b3, h0, h1, h10, h11, hkj, hkj']
      exact hq _ (by simp) (by simp) (by simp [he]) (by simp) (by simp)

theorem part_dn1 {n a i j : Nat} (hs : n ≤ 1152921504606846976) (ha : a < n) (hj : j < n) (hi : 1 ≤ i) (hin : i ≤ n) (d : Array Int) (hd : d.size = n) (Q : Ex → St → Prop) (sl : Sl) (bs : Nat)
    (h0 : gt sl 0 = dataV n) (h1 : gt sl 1 = vi a) (h10 : gt sl 10 = vi i) (h11 : gt sl 11 = vi j)
    (hq : ∀ s, gt s.sl 0 = dataV n → gt s.sl 1 = vi a → gt s.sl 10 = vi i → gt s.sl 11 = vi (Go.Sort.scanDown (fun x => !Go.Sort.ltInt x d[a]!) d i j : Nat) → s.hp = [rowsO d] → Q (.exit 2) s) :
    WI Tryz.prog (.loop slices_partitionOrdered_int.b1) Q ⟨sl, [rowsO d], bs⟩ := by
  obtain ⟨S, hS⟩ : ∃ S, Go.Sort.scanDown (fun x => !Go.Sort.ltInt x d[a]!) d i j = S := ⟨_, rfl⟩
  rw [hS] at hq
  refine WI.loop 1 (by simp) (fun s => ∃ k : Nat, k ≤ j ∧ gt s.sl 0 = dataV n ∧ gt s.sl 1 = vi a ∧ gt s.sl 10 = vi i ∧ gt s.sl 11 = vi k ∧ s.hp = [rowsO d] ∧ S = Go.Sort.scanDown (fun x => !Go.Sort.ltInt x d[a]!) d i k) (fun s => (gt s.sl 11).num.toNat) ?_ ?_
  · exact ⟨j, Nat.le_refl _, h0, h1, h10, h11, rfl, hS.symm⟩
  · clear h0 h1 h10 h11
    rintro ⟨sl, hp, bs⟩ ⟨k, hk, h0, h1, h10, h11, rfl, he⟩
    by_cases hkj : i ≤ k
    · obtain ⟨m, rfl⟩ : ∃ m, k = m + 1 := ⟨k - 1, by omega⟩
      rw [Go.Sort.scanDown] at he
      obtain ⟨q, hq'⟩ : ∃ q, m + 1 = q := ⟨_, rfl⟩
      rw [hq'] at he h11 hkj
      have kk : q < d.size := by omega
      have ka : a < d.size := by omega
      have kk' : q < n := by omega
      have hkj' : (i : Int) ≤ q := by omega
      have hw : IntKind.i64.wrap ((q : Int) - 1) = (m : Int) := by rw [wrap64] <;> omega
      rw [get_bang d kk, get_bang d ka] at he
      simp -dsimp [↓call_f, slices_partitionOrdered_int.b1, h0, h1, h10, h11, hkj, hkj', kk', ha, hd]
      refine (less_spec d[q] d[a]).use ?_
      by_cases hlt : Go.Sort.ltInt d[q] d[a] = true
      · simp only [hlt] at he
        rw [if_neg (by simp)] at he
        simp -dsimp [hlt, h0, h1, h10, h11]
        exact hq _ (by simp) (by simp) (by simp) (by simp [he]) (by simp)
      · have hlt : Go.Sort.ltInt d[q] d[a] = false := by simpa using hlt
        simp only [hlt] at he
        rw [if_pos (by simp; omega)] at he
        simp -dsimp [hlt, h0, h1, h10, h11, hw]
        exact ⟨⟨m, by omega, rfl, he⟩, by omega⟩
    · have hkj' : ¬ (i : Int) ≤ k := by omega
      have he : S = k := by
        rw [he]
        cases k with
        | zero => rfl
        | succ m => rw [Go.Sort.scanDown, if_neg (by simp; omega)]
      simp -dsimp [slices_partitionOrdered_int.b1, h0, h1, h10, h11, hkj, hkj']
      exact hq _ (by simp) (by simp) (by simp) (by simp [he]) (by simp)

theorem part_dn4 {n a i j : Nat} (hs : n ≤ 1152921504606846976) (ha : a < n) (hj : j < n) (hi : 1 ≤ i) (hin : i ≤ n) (d : Array Int) (hd : d.size = n) (Q : Ex → St → Prop) (sl : Sl) (bs : Nat)
    (h0 : gt sl 0 = dataV n) (h1 : gt sl 1 = vi a) (h10 : gt sl 10 = vi i) (h11 : gt sl 11 = vi j)
    (hq : ∀ s, gt s.sl 0 = dataV n → gt s.sl 1 = vi a → gt s.sl 10 = vi i → gt s.sl 11 = vi (Go.Sort.scanDown (fun x => !Go.Sort.ltInt x d[a]!) d i j : Nat) → s.hp = [rowsO d] → Q (.exit 8) s) :
    WI Tryz.prog (.loop slices_partitionOrdered_int.b4) Q ⟨sl, [rowsO d], bs⟩ := by
  obtain ⟨S, hS⟩ : ∃ S, Go.Sort.scanDown (fun x => !Go.Sort.ltInt x d[a]!) d i j = S := ⟨_, rfl⟩
  rw [hS] at hq
  refine WI.loop 1 (by simp) (fun s => ∃ k : Nat, k ≤ j ∧ gt s.sl 0 = dataV n ∧ gt s.sl 1 = vi a ∧ gt s.sl 10 = vi i ∧ gt s.sl 11 = vi k ∧ s.hp = [rowsO d] ∧ S = Go.Sort.scanDown (fun x => !Go.Sort.ltInt x d[a]!) d i k) (fun s => (gt s.sl 11).num.toNat) ?_ ?_
  · exact ⟨j, Nat.le_refl _, h0, h1, h10, h11, rfl, hS.symm⟩
  · clear h0 h1 h10 h11
    rintro ⟨sl, hp, bs⟩ ⟨k, hk, h0, h1, h10, h11, rfl, he⟩
    by_cases hkj : i ≤ k
    · obtain ⟨m, rfl⟩ : ∃ m, k = m + 1 := ⟨k - 1, by omega⟩
      rw [Go.Sort.scanDown] at he
      obtain ⟨q, hq'⟩ : ∃ q, m + 1 = q := ⟨_, rfl⟩
      rw [hq'] at he h11 hkj
      have kk : q < d.size := by omega
      have ka : a < d.size := by omega
      have kk' : q < n := by omega
      have hkj' : (i : Int) ≤ q := by omega
      have hw : IntKind.i64.wrap ((q : Int) - 1) = (m : Int) := by rw [wrap64] <;> omega
      rw [get_bang d kk, get_bang d ka] at he
      simp -dsimp [↓call_f, slices_partitionOrdered_int.b4, h0, h1, h10, h11, hkj, hkj', kk', ha, hd]
      refine (less_spec d[q] d[a]).use ?_
      by_cases hlt : Go.Sort.ltInt d[q] d[a] = true
      · simp only [hlt] at he
        rw [if_neg (by simp)] at he
        simp -dsimp [hlt, h0, h1, h10, h11]
        exact hq _ (by simp) (by simp) (by simp) (by simp [he]) (by simp)
      · have hlt : Go.Sort.ltInt d[q] d[a] = false := by simpa using hlt
        simp only [hlt] at he
        rw [if_pos (by simp; omega)] at he
        simp -dsimp [hlt, h0, h1, h10, h11, hw]
        exact ⟨⟨m, by omega, rfl, he⟩, by omega⟩
    · have hkj' : ¬ (i : Int) ≤ k := by omega
      have he : S = k := by
        rw [he]
        cases k with
        | zero => rfl
        | succ m => rw [Go.Sort.scanDown, if_neg (by simp; omega)]
      simp -dsimp [slices_partitionOrdered_int.b4, h0, h1, h10, h11, hkj, hkj']
      exact hq _ (by simp) (by simp) (by simp) (by simp [he]) (by simp)

theorem peq_up {n a i j : Nat} (hs : n ≤ 1152921504606846976) (ha : a < n) (hj : j < n) (hi : i ≤ j + 1) (d : Array Int) (hd : d.size = n) (Q : Ex → St → Prop) (sl : Sl) (bs : Nat)
    (h0 : gt sl 0 = dataV n) (h1 : gt sl 1 = vi a) (h10 : gt sl 9 = vi i) (h11 : gt sl 10 = vi j)
    (hq : ∀ s, gt s.sl 0 = dataV n → gt s.sl 1 = vi a → gt s.sl 9 = vi (Go.Sort.scanUp (fun x => !Go.Sort.ltInt d[a]! x) d j i : Nat) → gt s.sl 10 = vi j → s.hp = [rowsO d] → Q (.exit 2) s) :
    WI Tryz.prog (.loop slices_partitionEqualOrdered_int.b1) Q ⟨sl, [rowsO d], bs⟩ := by
  obtain ⟨S, hS⟩ : ∃ S, Go.Sort.scanUp (fun x => !Go.Sort.ltInt d[a]! x) d j i = S := ⟨_, rfl⟩
  rw [hS] at hq
  refine WI.loop 1 (by simp) (fun s => ∃ k : Nat, k ≤ j + 1 ∧ gt s.sl 0 = dataV n ∧ gt s.sl 1 = vi a ∧ gt s.sl 9 = vi k ∧ gt s.sl 10 = vi j ∧ s.hp = [rowsO d] ∧ S = Go.Sort.scanUp (fun x => !Go.Sort.ltInt d[a]! x) d j k) (fun s => (j + 1 - (gt s.sl 9).num).toNat) ?_ ?_
  · exact ⟨i, hi, h0, h1, h10, h11, rfl, hS.symm⟩
  · clear h0 h1 h10 h11
    rintro ⟨sl, hp, bs⟩ ⟨k, hk, h0, h1, h10, h11, rfl, he⟩
    rw [Go.Sort.scanUp] at he
    by_cases hkj : k ≤ j
    · have kk : k < d.size := by omega
      have ka : a < d.size := by omega
      have kk' : k < n := by omega
      have hkj' : (k : Int) ≤ j := by omega
      have hw : IntKind.i64.wrap ((k : Int) + 1) = ((k + 1 : Nat) : Int) := by rw [wrap64] <;> omega
      rw [get_bang d kk, get_bang d ka] at he
      simp -dsimp [↓call_f, slices_partitionEqualOrdered_int.b1, h0, h1, h10, h11, hkj, hkj', kk', ha, hd]
      refine (less_spec d[a] d[k]).use ?_
      by_cases hlt : Go.Sort.ltInt d[a] d[k] = true
      · simp only [hlt] at he
        rw [if_neg (by simp)] at he
        simp -dsimp [hlt, h0, h1, h10, h11]
        exact hq _ (by simp) (by simp) (by simp [he]) (by simp) (by simp)
      · have hlt : Go.Sort.ltInt d[a] d[k] = false := by simpa using hlt
        simp only [hlt] at he
        rw [if_pos (by simp; omega)] at he
        simp -dsimp [hlt, h0, h1, h10, h11, hw]
        exact ⟨⟨k + 1, by omega, by omega, he⟩, by omega⟩
    · have hkj' : ¬ (k : Int) ≤ j := by omega
      rw [if_neg (by simp; omega)] at he
      simp -dsimp [slices_partitionEqualOrdered_int.b1, h0, h1, h10, h11, hkj, hkj']
      exact hq _ (by simp) (by simp) (by simp [he]) (by simp) (by simp)

theorem peq_dn {n a i j : Nat} (hs : n ≤ 1152921504606846976) (ha : a < n) (hj : j < n) (hi : 1 ≤ i) (hin : i ≤ n) (d : Array Int) (hd : d.size = n) (Q : Ex → St → Prop) (sl : Sl) (bs : Nat)
    (h0 : gt sl 0 = dataV n) (h1 : gt sl 1 = vi a) (h10 : gt sl 9 = vi i) (h11 : gt sl 10 = vi j)
    (hq : ∀ s, gt s.sl 0 = dataV n → gt s.sl 1 = vi a → gt s.sl 9 = vi i → gt s.sl 10 = vi (Go.Sort.scanDown (fun x => Go.Sort.ltInt d[a]! x) d i j : Nat) → s.hp = [rowsO d] → Q (.exit 4) s) :
    WI Tryz.prog (.loop slices_partitionEqualOrdered_int.b2) Q ⟨sl, [rowsO d], bs⟩ := by
  obtain ⟨S, hS⟩ : ∃ S, Go.Sort.scanDown (fun x => Go.Sort.ltInt d[a]! x) d i j = S := ⟨_, rfl⟩
  rw [hS] at hq
  refine WI.loop 1 (by simp) (fun s => ∃ k : Nat, k ≤ j ∧ gt s.sl 0 = dataV n ∧ gt s.sl 1 = vi a ∧ gt s.sl 9 = vi i ∧ gt s.sl 10 = vi k ∧ s.hp = [rowsO d] ∧ S = Go.Sort.scanDown (fun x => Go.Sort.ltInt d[a]! x) d i k) (fun s => (gt s.sl 10).num.toNat) ?_ ?_
  · exact ⟨j, Nat.le_refl _, h0, h1, h10, h11, rfl, hS.symm⟩
  · clear h0 h1 h10 h11
    rintro ⟨sl, hp, bs⟩ ⟨k, hk, h0, h1, h10, h11, rfl, he⟩
    by_cases hkj : i ≤ k
    · obtain ⟨m, rfl⟩ : ∃ m, k = m + 1 := ⟨k - 1, by omega⟩
      rw [Go.Sort.scanDown] at he
      obtain ⟨q, hq'⟩ : ∃ q, m + 1 = q := ⟨_, rfl⟩
      rw [hq'] at he h11 hkj
      have kk : q < d.size := by omega
      have ka : a < d.size := by omega
      have kk' : q < n := by omega
      have hkj' : (i : Int) ≤ q := by omega
      have hw : IntKind.i64.wrap ((q : Int) - 1) = (m : Int) := by rw [wrap64] <;> omega
      rw [get_bang d kk, get_bang d ka] at he
      simp -dsimp [↓call_f, slices_partitionEqualOrdered_int.b2, h0, h1, h10, h11, hkj, hkj', kk', ha, hd]
      refine (less_spec d[a] d[q]).use ?_
      by_cases hlt : Go.Sort.ltInt d[a] d[q] = true
      · simp only [hlt] at he
        rw [if_pos (by simp; omega)] at he
        simp -dsimp [hlt, h0, h1, h10, h11, hw]
        exact ⟨⟨m, by omega, rfl, he⟩, by omega⟩
      · have hlt : Go.Sort.ltInt d[a] d[q] = false := by simpa using hlt
        simp only [hlt] at he
        rw [if_neg (by simp)] at he
        simp -dsimp [hlt, h0, h1, h10, h11]
        exact hq _ (by simp) (by simp) (by simp) (by simp [he]) (by simp)
    · have hkj' : ¬ (i : Int) ≤ k := by omega
      have he : S = k := by
        rw [he]
        cases k with
        | zero => rfl
        | succ m => rw [Go.Sort.scanDown, if_neg (by simp; omega)]
      simp -dsimp [slices_partitionEqualOrdered_int.b2, h0, h1, h10, h11, hkj, hkj']
      exact hq _ (by simp) (by simp) (by simp) (by simp [he]) (by simp)

end Go.Abs.G


namespace Go.Abs.G
open Go.Proofs
attribute [local simp] I.vc sub merge place
set_option linter.unusedVariables false
set_option linter.unusedSimpArgs false

theorem scanUp_bound (p : Int → Bool) (d : Array Int) (j : Nat) : ∀ (k i : Nat), j + 1 - i ≤ k → i ≤ Go.Sort.scanUp p d j i ∧ (i ≤ j + 1 → Go.Sort.scanUp p d j i ≤ j + 1) := by
  intro k
  induction k with
  | zero =>
    intro i h
    rw [Go.Sort.scanUp, if_neg (by simp; omega)]
    exact ⟨Nat.le_refl _, fun h => h⟩
  | succ k ih =>
    intro i h
    rw [Go.Sort.scanUp]
    split
    · next hc =>
      simp at hc
      have := ih (i + 1) (by omega)
      exact ⟨by omega, fun _ => this.2 (by omega)⟩
    · exact ⟨Nat.le_refl _, fun h => h⟩

theorem scanDown_bound (p : Int → Bool) (d : Array Int) (i : Nat) : ∀ (j : Nat), Go.Sort.scanDown p d i j ≤ j ∧ (1 ≤ i → i ≤ j + 1 → i ≤ Go.Sort.scanDown p d i j + 1) := by
  intro j
  induction j with
  | zero => exact ⟨Nat.le_refl _, fun _ h => h⟩
  | succ j ih =>
    rw [Go.Sort.scanDown]
    split
    · next hc =>
      simp at hc
      exact ⟨by omega, fun h1 h2 => ih.2 h1 (by omega)⟩
    · exact ⟨Nat.le_refl _, fun _ h => h⟩

theorem scanUp_stop (p : Int → Bool) (d : Array Int) (j : Nat) : ∀ (k i : Nat), j + 1 - i ≤ k → Go.Sort.scanUp p d j i ≤ j → p d[Go.Sort.scanUp p d j i]! = false := by
  intro k
  induction k with
  | zero =>
    intro i h h2
    rw [Go.Sort.scanUp, if_neg (by simp; omega)] at h2
    omega
  | succ k ih =>
    intro i h h2
    rw [Go.Sort.scanUp] at h2 ⊢
    split
    · next hc =>
      rw [if_pos hc] at h2
      simp at hc
      exact ih (i + 1) (by omega) h2
    · next hc =>
      rw [if_neg hc] at h2
      simp only [Bool.and_eq_true, decide_eq_true_eq, not_and] at hc
      simpa using hc h2

theorem scanDown_stop (p : Int → Bool) (d : Array Int) (i : Nat) (hi : 1 ≤ i) : ∀ (j : Nat), i ≤ Go.Sort.scanDown p d i j → p d[Go.Sort.scanDown p d i j]! = false := by
  intro j
  induction j with
  | zero => intro h; simp [Go.Sort.scanDown] at h; omega
  | succ j ih =>
    intro h
    rw [Go.Sort.scanDown] at h ⊢
    split
    · next hc => rw [if_pos hc] at h; exact ih h
    · next hc =>
      rw [if_neg hc] at h
      simp only [Bool.and_eq_true, decide_eq_true_eq, not_and] at hc
      simpa using hc h

/-- The 'for' of partition. -/
theorem part_loop {n a i j : Nat} (hs : n ≤ 1152921504606846976) (ha : a < n) (hi : 1 ≤ i) (hj : j < n) (hij : i ≤ j + 1) (d : Array Int) (hd : d.size = n) (Q : Ex → St → Prop) (sl : Sl) (bs : Nat)
    (h0 : gt sl 0 = dataV n) (h1 : gt sl 1 = vi a) (h10 : gt sl 10 = vi i) (h11 : gt sl 11 = vi j)
    (hq : ∀ s, gt s.sl 0 = dataV n → gt s.sl 1 = vi a → gt s.sl 11 = vi (Go.Sort.partLoop Go.Sort.ltInt a i j d).1 → s.hp = [rowsO (Go.Sort.partLoop Go.Sort.ltInt a i j d).2] → Q (.exit 4) s) :
    WI Tryz.prog (.loop slices_partitionOrdered_int.b2) Q ⟨sl, [rowsO d], bs⟩ := by
  obtain ⟨S, hS⟩ : ∃ S, Go.Sort.partLoop Go.Sort.ltInt a i j d = S := ⟨_, rfl⟩
  rw [hS] at hq
  refine WI.loop 1 (by simp) (fun s => ∃ (x y : Nat) (d' : Array Int), 1 ≤ x ∧ y < n ∧ x ≤ y + 1 ∧ d'.size = n ∧ gt s.sl 0 = dataV n ∧ gt s.sl 1 = vi a ∧ gt s.sl 10 = vi x ∧ gt s.sl 11 = vi y ∧ s.hp = [rowsO d'] ∧ S = Go.Sort.partLoop Go.Sort.ltInt a x y d') (fun s => ((gt s.sl 11).num + 1 - (gt s.sl 10).num).toNat) ?_ ?_
  · exact ⟨i, j, d, hi, hj, hij, hd, h0, h1, h10, h11, rfl, hS.symm⟩
  · clear h0 h1 h10 h11
    rintro ⟨sl, hp, bs⟩ ⟨x, y, d', hx, hy, hxy, hd', h0, h1, h10, h11, rfl, he⟩
    have g10 := h10
    have g11 := h11
    rw [Go.Sort.partLoop] at he
    have bu := scanUp_bound (fun z => Go.Sort.ltInt z d'[a]!) d' y (y + 1 - x) x (Nat.le_refl _)
    unfold slices_partitionOrdered_int.b2
    refine vc_block_of ?_
    obtain ⟨i2, hi2⟩ : ∃ k, Go.Sort.scanUp (fun z => Go.Sort.ltInt z d'[a]!) d' y x = k := ⟨_, rfl⟩
    rw [hi2] at he bu
    have bd := scanDown_bound (fun z => !Go.Sort.ltInt z d'[a]!) d' i2 y
    obtain ⟨j2, hj2⟩ : ∃ k, Go.Sort.scanDown (fun z => !Go.Sort.ltInt z d'[a]!) d' i2 y = k := ⟨_, rfl⟩
    rw [hj2] at he bd
    have b1 := bu.2 hxy
    have b2 := bd.2 (by omega) b1
    refine vc_cut (fun s => gt s.sl 0 = dataV n ∧ gt s.sl 1 = vi a ∧ gt s.sl 10 = vi i2 ∧ gt s.sl 11 = vi y ∧ s.hp = [rowsO d']) (vc_block_of (part_up3 (i := x) (j := y) hs ha hy hxy d' hd' _ _ _ h0 h1 h10 h11 fun s q0 q1 q10 q11 qh => ?_)) ?_
    · rw [hi2] at q10
      exact ⟨q0, q1, q10, q11, qh⟩
    clear h0 h1 h10 h11
    rintro ⟨sl, hp, bs⟩ ⟨h0, h1, h10, h11, rfl⟩
    refine vc_cut (fun s => gt s.sl 0 = dataV n ∧ gt s.sl 1 = vi a ∧ gt s.sl 10 = vi i2 ∧ gt s.sl 11 = vi j2 ∧ s.hp = [rowsO d']) (vc_block_of (part_dn4 (i := i2) (j := y) hs ha hy (by omega) (by omega) d' hd' _ _ _ h0 h1 h10 h11 fun s q0 q1 q10 q11 qh => ?_)) ?_
    · rw [hj2] at q11
      exact ⟨q0, q1, q10, q11, qh⟩
    clear h0 h1 h10 h11
    rintro ⟨sl, hp, bs⟩ ⟨h0, h1, h10, h11, rfl⟩
    by_cases hgt : i2 > j2
    · rw [if_pos hgt] at he
      have hgt' : (j2 : Int) < i2 := by omega
      simp -dsimp [h0, h1, h10, h11, hgt']
      exact hq _ (by simp) (by simp) (by simp [he]) (by simp [he])
    · rw [if_neg hgt, dif_pos (by omega)] at he
      have hgt' : ¬ (j2 : Int) < i2 := by omega
      have k1 : i2 < d'.size := by omega
      have k2 : j2 < d'.size := by omega
      have k1' : i2 < n := by omega
      have k2' : j2 < n := by omega
      have hsw := swp_rows d' k1 k2
      have hwi : IntKind.i64.wrap ((i2 : Int) + 1) = ((i2 + 1 : Nat) : Int) := by rw [wrap64] <;> omega
      have hwj : IntKind.i64.wrap ((j2 : Int) - 1) = ((j2 - 1 : Nat) : Int) := by rw [wrap64] <;> omega
      have heq : ¬ i2 = j2 := by
        intro heq
        have t1 := scanUp_stop (fun z => Go.Sort.ltInt z d'[a]!) d' y (y + 1 - x) x (Nat.le_refl _) (by rw [hi2]; omega)
        have t2 := scanDown_stop (fun z => !Go.Sort.ltInt z d'[a]!) d' i2 (by omega) y (by rw [hj2]; omega)
        rw [hi2] at t1
        rw [hj2, ← heq] at t2
        rw [t1] at t2
        cases t2
      simp -dsimp [h0, h1, h10, h11, hgt', hd', k1', k2', heq, hwi, hwj, List.getElem_set, g10, g11]
      exact ⟨⟨i2 + 1, by omega, j2 - 1, by omega, by omega, Go.Sort.swp d' i2 j2, by rw [swp_size]; exact hd', by omega, rfl, hsw, he⟩, by omega⟩

theorem partLoop_bound (a : Nat) : ∀ (k i j : Nat) (d : Array Int), j + 1 - i ≤ k → (Go.Sort.partLoop Go.Sort.ltInt a i j d).2.size = d.size ∧ (Go.Sort.partLoop Go.Sort.ltInt a i j d).1 ≤ j := by
  intro k
  induction k with
  | zero =>
    intro i j d h
    rw [Go.Sort.partLoop]
    have bu := scanUp_bound (fun z => Go.Sort.ltInt z d[a]!) d j (j + 1 - i) i (Nat.le_refl _)
    have bd := scanDown_bound (fun z => !Go.Sort.ltInt z d[a]!) d (Go.Sort.scanUp (fun z => Go.Sort.ltInt z d[a]!) d j i) j
    split
    · exact ⟨rfl, bd.1⟩
    · split
      · omega
      · exact ⟨rfl, bd.1⟩
  | succ k ih =>
    intro i j d h
    rw [Go.Sort.partLoop]
    have bd := scanDown_bound (fun z => !Go.Sort.ltInt z d[a]!) d (Go.Sort.scanUp (fun z => Go.Sort.ltInt z d[a]!) d j i) j
    split
    · exact ⟨rfl, bd.1⟩
    · split
      · next hlt =>
        have := ih (Go.Sort.scanUp (fun z => Go.Sort.ltInt z d[a]!) d j i + 1) (Go.Sort.scanDown (fun z => !Go.Sort.ltInt z d[a]!) d (Go.Sort.scanUp (fun z => Go.Sort.ltInt z d[a]!) d j i) j - 1) (Go.Sort.swp d (Go.Sort.scanUp (fun z => Go.Sort.ltInt z d[a]!) d j i) (Go.Sort.scanDown (fun z => !Go.Sort.ltInt z d[a]!) d (Go.Sort.scanUp (fun z => Go.Sort.ltInt z d[a]!) d j i) j)) (by omega)
        exact ⟨by rw [this.1, swp_size], by omega⟩
      · exact ⟨rfl, bd.1⟩
end Go.Abs.G


namespace Go.Abs.G
open Go.Proofs
attribute [local simp] I.vc sub merge place
set_option linter.unusedVariables false
set_option linter.unusedSimpArgs false

set_option maxHeartbeats 1000000 in
theorem partition_spec (d : Array Int) (a b pivot : Nat) (hap : a ≤ pivot) (hpb : pivot < b) (hab : a + 2 < b) (hb : b ≤ d.size) (hs : d.size ≤ 1152921504606846976) :
    DC Tryz.prog slices_partitionOrdered_int.id [dataV d.size, vi a, vi b, vi pivot] [rowsO d] (fun r H => r = .tup [vi (Go.Sort.partition Go.Sort.ltInt d a b pivot).1, .bool (Go.Sort.partition Go.Sort.ltInt d a b pivot).2.1] ∧ H = [rowsO (Go.Sort.partition Go.Sort.ltInt d a b pivot).2.2]) := by
  refine DC.of slices_partitionOrdered_int.ok (by simp) ?_
  obtain ⟨R, hR⟩ : ∃ R, Go.Sort.partition Go.Sort.ltInt d a b pivot = R := ⟨_, rfl⟩
  rw [hR]
  unfold Go.Sort.partition at hR
  obtain ⟨n, hn⟩ : ∃ n, d.size = n := ⟨_, rfl⟩
  obtain ⟨d1, hd1⟩ : ∃ x, Go.Sort.swp d a pivot = x := ⟨_, rfl⟩
  have z1 : d1.size = n := by rw [← hd1, swp_size, hn]
  simp only [hd1] at hR
  obtain ⟨i, hi⟩ : ∃ x, Go.Sort.scanUp (fun x => Go.Sort.ltInt x d1[a]!) d1 (b - 1) (a + 1) = x := ⟨_, rfl⟩
  have bu := scanUp_bound (fun x => Go.Sort.ltInt x d1[a]!) d1 (b - 1) (b - 1 + 1 - (a + 1)) (a + 1) (Nat.le_refl _)
  have tu := scanUp_stop (fun x => Go.Sort.ltInt x d1[a]!) d1 (b - 1) (b - 1 + 1 - (a + 1)) (a + 1) (Nat.le_refl _)
  rw [hi] at hR bu tu
  obtain ⟨j, hj⟩ : ∃ x, Go.Sort.scanDown (fun x => !Go.Sort.ltInt x d1[a]!) d1 i (b - 1) = x := ⟨_, rfl⟩
  have bd := scanDown_bound (fun x => !Go.Sort.ltInt x d1[a]!) d1 i (b - 1)
  have td := scanDown_stop (fun x => !Go.Sort.ltInt x d1[a]!) d1 i (by omega) (b - 1)
  rw [hj] at hR bd td
  have b1 := bu.2 (by omega)
  have b2 := bd.2 (by omega) b1
  rw [hn]
  have hsn : n ≤ 1152921504606846976 := by omega
  have w1 : IntKind.i64.wrap ((a : Int) + 1) = ((a + 1 : Nat) : Int) := by rw [wrap64] <;> omega
  have w2 : IntKind.i64.wrap ((b : Int) - 1) = ((b - 1 : Nat) : Int) := by rw [wrap64] <;> omega
  have ka : a < d.size := by omega
  have kp : pivot < d.size := by omega
  have ka' : a < n := by omega
  have kp' : pivot < n := by omega
  unfold slices_partitionOrdered_int.ir
  refine vc_cut (fun s => gt s.sl 0 = dataV n ∧ gt s.sl 1 = vi a ∧ gt s.sl 2 = vi b ∧ gt s.sl 3 = vi pivot ∧ s.hp = [rowsO d]) (by simp -dsimp) ?_
  rintro ⟨sl, hp, bs⟩ ⟨h0, h1, h2, h3, rfl⟩
  refine vc_cut (fun s => gt s.sl 0 = dataV n ∧ gt s.sl 1 = vi a ∧ gt s.sl 2 = vi b ∧ s.hp = [rowsO d1]) ?_ ?_
  · have hsw := swp_rows d ka kp
    rw [hd1] at hsw
    by_cases heq : a = pivot
    · clear hR hd1
      subst heq
      simp only [List.set_set] at hsw
      simp -dsimp [h0, h1, h2, h3, hn, ka', kp', List.getElem_set]
      exact hsw
    · simp -dsimp [h0, h1, h2, h3, hn, ka', kp', heq, List.getElem_set, hsw]
  clear h0 h1 h2 h3
  rintro ⟨sl, hp, bs⟩ ⟨h0, h1, h2, rfl⟩
  refine vc_cut (fun s => gt s.sl 0 = dataV n ∧ gt s.sl 1 = vi a ∧ gt s.sl 10 = vi (a + 1 : Nat) ∧ gt s.sl 11 = vi (b - 1 : Nat) ∧ s.hp = [rowsO d1]) (by simp -dsimp [h0, h1, h2, w1, w2]) ?_
  clear h0 h1 h2
  rintro ⟨sl, hp, bs⟩ ⟨h0, h1, h10, h11, rfl⟩
  refine vc_cut (fun s => gt s.sl 0 = dataV n ∧ gt s.sl 1 = vi a ∧ gt s.sl 10 = vi i ∧ gt s.sl 11 = vi (b - 1 : Nat) ∧ s.hp = [rowsO d1]) (vc_block_of (part_up0 (i := a + 1) (j := b - 1) hsn ka' (by omega) (by omega) d1 z1 _ _ _ h0 h1 h10 h11 fun s q0 q1 q10 q11 qh => ?_)) ?_
  · rw [hi] at q10
    exact ⟨q0, q1, q10, q11, qh⟩
  clear h0 h1 h10 h11
  rintro ⟨sl, hp, bs⟩ ⟨h0, h1, h10, h11, rfl⟩
  refine vc_cut (fun s => gt s.sl 0 = dataV n ∧ gt s.sl 1 = vi a ∧ gt s.sl 10 = vi i ∧ gt s.sl 11 = vi j ∧ s.hp = [rowsO d1]) (vc_block_of (part_dn1 (i := i) (j := b - 1) hsn ka' (by omega) (by omega) (by omega) d1 z1 _ _ _ h0 h1 h10 h11 fun s q0 q1 q10 q11 qh => ?_)) ?_
  · rw [hj] at q11
    exact ⟨q0, q1, q10, q11, qh⟩
  clear h0 h1 h10 h11
  rintro ⟨sl, hp, bs⟩ ⟨h0, h1, h10, h11, rfl⟩
  have kj : j < d1.size := by omega
  have ka1 : a < d1.size := by omega
  have kj' : j < n := by omega
  by_cases hgt : i > j
  · rw [if_pos hgt] at hR
    have hgt' : (j : Int) < i := by omega
    have hsw := swp_rows d1 kj ka1
    by_cases heq : j = a
    · have hsw2 : ((d1.toList.map fun n => [V.a (.int .i64 n)]).set a [V.a (.int .i64 d1[a])]) = (Go.Sort.swp d1 j a).toList.map fun n => [V.a (.int .i64 n)] := by
        subst heq
        simpa only [List.set_set] using hsw
      obtain ⟨D, hD⟩ : ∃ D, Go.Sort.swp d1 j a = D := ⟨_, rfl⟩
      rw [hD] at hR hsw2
      clear hsw hD
      subst heq
      simp -dsimp [h0, h1, h10, h11, hgt', z1, ka', kj', List.getElem_set, ← hR, slices_partitionOrdered_int.rs]
      exact hsw2
    · simp -dsimp [h0, h1, h10, h11, hgt', z1, ka', kj', heq, List.getElem_set, hsw, ← hR, slices_partitionOrdered_int.rs]
  rw [if_neg hgt] at hR
  have hgt' : ¬ (j : Int) < i := by omega
  have hij : ¬ i = j := by
    intro heq
    have t1 := tu (by omega)
    have t2 := td (by omega)
    rw [← heq, t1] at t2
    cases t2
  have hlt : i < j := by omega
  have j1 : j - 1 + 1 = j := by omega
  obtain ⟨d2, hd2⟩ : ∃ x, Go.Sort.swp d1 i j = x := ⟨_, rfl⟩
  have z2 : d2.size = n := by rw [← hd2, swp_size, z1]
  have ki : i < d1.size := by omega
  have ki' : i < n := by omega
  have hsw := swp_rows d1 ki kj
  rw [hd2] at hsw
  rw [hd2] at hR
  have pb := partLoop_bound a (j - 1 + 1 - (i + 1)) (i + 1) (j - 1) d2 (Nat.le_refl _)
  obtain ⟨P, hP⟩ : ∃ x, Go.Sort.partLoop Go.Sort.ltInt a (i + 1) (j - 1) d2 = x := ⟨_, rfl⟩
  rw [hP] at hR pb
  obtain ⟨m, d3⟩ := P
  simp only at hR pb
  have w3 : IntKind.i64.wrap ((i : Int) + 1) = ((i + 1 : Nat) : Int) := by rw [wrap64] <;> omega
  have w4 : IntKind.i64.wrap ((j : Int) - 1) = ((j - 1 : Nat) : Int) := by rw [wrap64] <;> omega
  refine vc_cut (fun s => gt s.sl 0 = dataV n ∧ gt s.sl 1 = vi a ∧ gt s.sl 10 = vi i ∧ gt s.sl 11 = vi j ∧ s.hp = [rowsO d1]) (by simp -dsimp [h0, h1, h10, h11, hgt']) ?_
  clear h0 h1 h10 h11
  rintro ⟨sl, hp, bs⟩ ⟨h0, h1, h10, h11, rfl⟩
  refine vc_cut (fun s => gt s.sl 0 = dataV n ∧ gt s.sl 1 = vi a ∧ gt s.sl 10 = vi i ∧ gt s.sl 11 = vi j ∧ s.hp = [rowsO d2]) (by simp -dsimp [h0, h1, h10, h11, z1, ki', kj', hij, List.getElem_set, hsw]) ?_
  clear h0 h1 h10 h11
  rintro ⟨sl, hp, bs⟩ ⟨h0, h1, h10, h11, rfl⟩
  refine vc_cut (fun s => gt s.sl 0 = dataV n ∧ gt s.sl 1 = vi a ∧ gt s.sl 10 = vi (i + 1 : Nat) ∧ gt s.sl 11 = vi j ∧ s.hp = [rowsO d2]) (by simp -dsimp [h0, h1, h10, h11, w3]) ?_
  clear h0 h1 h10 h11
  rintro ⟨sl, hp, bs⟩ ⟨h0, h1, h10, h11, rfl⟩
  refine vc_cut (fun s => gt s.sl 0 = dataV n ∧ gt s.sl 1 = vi a ∧ gt s.sl 10 = vi (i + 1 : Nat) ∧ gt s.sl 11 = vi (j - 1 : Nat) ∧ s.hp = [rowsO d2]) (by simp -dsimp [h0, h1, h10, h11, w4]) ?_
  clear h0 h1 h10 h11
  rintro ⟨sl, hp, bs⟩ ⟨h0, h1, h10, h11, rfl⟩
  refine vc_cut (fun s => gt s.sl 0 = dataV n ∧ gt s.sl 1 = vi a ∧ gt s.sl 11 = vi m ∧ s.hp = [rowsO d3]) (vc_block_of (part_loop (i := i + 1) (j := j - 1) hsn ka' (by omega) (by omega) (by omega) d2 z2 _ _ _ h0 h1 h10 h11 fun s q0 q1 q11 qh => ?_)) ?_
  · rw [hP] at q11 qh
    exact ⟨q0, q1, q11, qh⟩
  clear h0 h1 h10 h11
  rintro ⟨sl, hp, bs⟩ ⟨h0, h1, h11, rfl⟩
  have z3 : d3.size = n := by omega
  have km : m < d3.size := by omega
  have ka3 : a < d3.size := by omega
  have km' : m < n := by omega
  have hsw3 := swp_rows d3 km ka3
  by_cases heq : m = a
  · have hsw2 : ((d3.toList.map fun n => [V.a (.int .i64 n)]).set a [V.a (.int .i64 d3[a])]) = (Go.Sort.swp d3 m a).toList.map fun n => [V.a (.int .i64 n)] := by
      subst heq
      simpa only [List.set_set] using hsw3
    obtain ⟨D, hD⟩ : ∃ D, Go.Sort.swp d3 m a = D := ⟨_, rfl⟩
    rw [hD] at hR hsw2
    clear hsw3 hD
    subst heq
    simp -dsimp [h0, h1, h11, z3, ka', km', List.getElem_set, ← hR, slices_partitionOrdered_int.rs]
    exact hsw2
  · simp -dsimp [h0, h1, h11, z3, ka', km', heq, List.getElem_set, hsw3, ← hR, slices_partitionOrdered_int.rs]
end Go.Abs.G


namespace Go.Abs.G
open Go.Proofs
attribute [local simp] I.vc sub merge place
set_option linter.unusedVariables false
set_option linter.unusedSimpArgs false

/-- The 'for' of partitionEqual. -/
theorem peq_loop {n a i j : Nat} (hs : n ≤ 1152921504606846976) (ha : a < n) (hi : 1 ≤ i) (hj : j < n) (hij : i ≤ j + 1) (d : Array Int) (hd : d.size = n) (Q : Ex → St → Prop) (sl : Sl) (bs : Nat)
    (h0 : gt sl 0 = dataV n) (h1 : gt sl 1 = vi a) (h10 : gt sl 9 = vi i) (h11 : gt sl 10 = vi j)
    (hq : ∀ s, gt s.sl 0 = dataV n → gt s.sl 1 = vi a → gt s.sl 9 = vi (Go.Sort.partEqLoop Go.Sort.ltInt a i j d).1 → s.hp = [rowsO (Go.Sort.partEqLoop Go.Sort.ltInt a i j d).2] → Q (.exit 0) s) :
    WI Tryz.prog (.loop slices_partitionEqualOrdered_int.b0) Q ⟨sl, [rowsO d], bs⟩ := by
  obtain ⟨S, hS⟩ : ∃ S, Go.Sort.partEqLoop Go.Sort.ltInt a i j d = S := ⟨_, rfl⟩
  rw [hS] at hq
  refine WI.loop 1 (by simp) (fun s => ∃ (x y : Nat) (d' : Array Int), 1 ≤ x ∧ y < n ∧ x ≤ y + 1 ∧ d'.size = n ∧ gt s.sl 0 = dataV n ∧ gt s.sl 1 = vi a ∧ gt s.sl 9 = vi x ∧ gt s.sl 10 = vi y ∧ s.hp = [rowsO d'] ∧ S = Go.Sort.partEqLoop Go.Sort.ltInt a x y d') (fun s => ((gt s.sl 10).num + 1 - (gt s.sl 9).num).toNat) ?_ ?_
  · exact ⟨i, j, d, hi, hj, hij, hd, h0, h1, h10, h11, rfl, hS.symm⟩
  · clear h0 h1 h10 h11
    rintro ⟨sl, hp, bs⟩ ⟨x, y, d', hx, hy, hxy, hd', h0, h1, h10, h11, rfl, he⟩
    have g10 := h10
    have g11 := h11
    rw [Go.Sort.partEqLoop] at he
    have bu := scanUp_bound (fun z => !Go.Sort.ltInt d'[a]! z) d' y (y + 1 - x) x (Nat.le_refl _)
    unfold slices_partitionEqualOrdered_int.b0
    refine vc_block_of ?_
    obtain ⟨i2, hi2⟩ : ∃ k, Go.Sort.scanUp (fun z => !Go.Sort.ltInt d'[a]! z) d' y x = k := ⟨_, rfl⟩
    rw [hi2] at he bu
    have bd := scanDown_bound (fun z => Go.Sort.ltInt d'[a]! z) d' i2 y
    obtain ⟨j2, hj2⟩ : ∃ k, Go.Sort.scanDown (fun z => Go.Sort.ltInt d'[a]! z) d' i2 y = k := ⟨_, rfl⟩
    rw [hj2] at he bd
    have b1 := bu.2 hxy
    have b2 := bd.2 (by omega) b1
    refine vc_cut (fun s => gt s.sl 0 = dataV n ∧ gt s.sl 1 = vi a ∧ gt s.sl 9 = vi i2 ∧ gt s.sl 10 = vi y ∧ s.hp = [rowsO d']) (vc_block_of (peq_up (i := x) (j := y) hs ha hy hxy d' hd' _ _ _ h0 h1 h10 h11 fun s q0 q1 q10 q11 qh => ?_)) ?_
    · rw [hi2] at q10
      exact ⟨q0, q1, q10, q11, qh⟩
    clear h0 h1 h10 h11
    rintro ⟨sl, hp, bs⟩ ⟨h0, h1, h10, h11, rfl⟩
    refine vc_cut (fun s => gt s.sl 0 = dataV n ∧ gt s.sl 1 = vi a ∧ gt s.sl 9 = vi i2 ∧ gt s.sl 10 = vi j2 ∧ s.hp = [rowsO d']) (vc_block_of (peq_dn (i := i2) (j := y) hs ha hy (by omega) (by omega) d' hd' _ _ _ h0 h1 h10 h11 fun s q0 q1 q10 q11 qh => ?_)) ?_
    · rw [hj2] at q11
      exact ⟨q0, q1, q10, q11, qh⟩
    clear h0 h1 h10 h11
    rintro ⟨sl, hp, bs⟩ ⟨h0, h1, h10, h11, rfl⟩
    by_cases hgt : i2 > j2
    · rw [if_pos hgt] at he
      have hgt' : (j2 : Int) < i2 := by omega
      simp -dsimp [h0, h1, h10, h11, hgt']
      exact hq _ (by simp) (by simp) (by simp [he]) (by simp [he])
    · rw [if_neg hgt, dif_pos (by omega)] at he
      have hgt' : ¬ (j2 : Int) < i2 := by omega
      have k1 : i2 < d'.size := by omega
      have k2 : j2 < d'.size := by omega
      have k1' : i2 < n := by omega
      have k2' : j2 < n := by omega
      have hsw := swp_rows d' k1 k2
      have hwi : IntKind.i64.wrap ((i2 : Int) + 1) = ((i2 + 1 : Nat) : Int) := by rw [wrap64] <;> omega
      have hwj : IntKind.i64.wrap ((j2 : Int) - 1) = ((j2 - 1 : Nat) : Int) := by rw [wrap64] <;> omega
      have heq : ¬ i2 = j2 := by
        intro heq
        have t1 := scanUp_stop (fun z => !Go.Sort.ltInt d'[a]! z) d' y (y + 1 - x) x (Nat.le_refl _) (by rw [hi2]; omega)
        have t2 := scanDown_stop (fun z => Go.Sort.ltInt d'[a]! z) d' i2 (by omega) y (by rw [hj2]; omega)
        rw [hi2] at t1
        rw [hj2, ← heq] at t2
        rw [t2] at t1
        cases t1
      simp -dsimp [h0, h1, h10, h11, hgt', hd', k1', k2', heq, hwi, hwj, List.getElem_set, g10, g11]
      exact ⟨⟨i2 + 1, by omega, j2 - 1, by omega, by omega, Go.Sort.swp d' i2 j2, by rw [swp_size]; exact hd', by omega, rfl, hsw, he⟩, by omega⟩


theorem partEq_spec (d : Array Int) (a b pivot : Nat) (hap : a ≤ pivot) (hpb : pivot < b) (hab : a + 2 < b) (hb : b ≤ d.size) (hs : d.size ≤ 1152921504606846976) :
    DC Tryz.prog slices_partitionEqualOrdered_int.id [dataV d.size, vi a, vi b, vi pivot] [rowsO d] (fun r H => r = vi (Go.Sort.partitionEqual Go.Sort.ltInt d a b pivot).1 ∧ H = [rowsO (Go.Sort.partitionEqual Go.Sort.ltInt d a b pivot).2]) := by
  refine DC.of slices_partitionEqualOrdered_int.ok (by simp) ?_
  obtain ⟨R, hR⟩ : ∃ R, Go.Sort.partitionEqual Go.Sort.ltInt d a b pivot = R := ⟨_, rfl⟩
  rw [hR]
  unfold Go.Sort.partitionEqual at hR
  obtain ⟨n, hn⟩ : ∃ n, d.size = n := ⟨_, rfl⟩
  obtain ⟨d1, hd1⟩ : ∃ x, Go.Sort.swp d a pivot = x := ⟨_, rfl⟩
  have z1 : d1.size = n := by rw [← hd1, swp_size, hn]
  rw [hd1] at hR
  rw [hn]
  have hsn : n ≤ 1152921504606846976 := by omega
  have w1 : IntKind.i64.wrap ((a : Int) + 1) = ((a + 1 : Nat) : Int) := by rw [wrap64] <;> omega
  have w2 : IntKind.i64.wrap ((b : Int) - 1) = ((b - 1 : Nat) : Int) := by rw [wrap64] <;> omega
  have ka : a < d.size := by omega
  have kp : pivot < d.size := by omega
  have ka' : a < n := by omega
  have kp' : pivot < n := by omega
  unfold slices_partitionEqualOrdered_int.ir
  refine vc_cut (fun s => gt s.sl 0 = dataV n ∧ gt s.sl 1 = vi a ∧ gt s.sl 2 = vi b ∧ gt s.sl 3 = vi pivot ∧ s.hp = [rowsO d]) (by simp -dsimp) ?_
  rintro ⟨sl, hp, bs⟩ ⟨h0, h1, h2, h3, rfl⟩
  refine vc_cut (fun s => gt s.sl 0 = dataV n ∧ gt s.sl 1 = vi a ∧ gt s.sl 2 = vi b ∧ s.hp = [rowsO d1]) ?_ ?_
  · have hsw := swp_rows d ka kp
    rw [hd1] at hsw
    by_cases heq : a = pivot
    · clear hR hd1
      subst heq
      simp only [List.set_set] at hsw
      simp -dsimp [h0, h1, h2, h3, hn, ka', kp', List.getElem_set]
      exact hsw
    · simp -dsimp [h0, h1, h2, h3, hn, ka', kp', heq, List.getElem_set, hsw]
  clear h0 h1 h2 h3
  rintro ⟨sl, hp, bs⟩ ⟨h0, h1, h2, rfl⟩
  refine vc_cut (fun s => gt s.sl 0 = dataV n ∧ gt s.sl 1 = vi a ∧ gt s.sl 9 = vi (a + 1 : Nat) ∧ gt s.sl 10 = vi (b - 1 : Nat) ∧ s.hp = [rowsO d1]) (by simp -dsimp [h0, h1, h2, w1, w2]) ?_
  clear h0 h1 h2
  rintro ⟨sl, hp, bs⟩ ⟨h0, h1, h10, h11, rfl⟩
  refine vc_cut (fun s => gt s.sl 9 = vi R.1 ∧ s.hp = [rowsO R.2]) (vc_block_of (peq_loop (i := a + 1) (j := b - 1) hsn ka' (by omega) (by omega) (by omega) d1 z1 _ _ _ h0 h1 h10 h11 fun s q0 q1 q11 qh => ?_)) ?_
  · rw [hR] at q11 qh
    exact ⟨q11, qh⟩
  clear h0 h1 h10 h11
  rintro ⟨sl, hp, bs⟩ ⟨h9, rfl⟩
  simp -dsimp [h9, slices_partitionEqualOrdered_int.rs]
end Go.Abs.G


namespace Go.Abs.G
open Go.Proofs
attribute [local simp] I.vc sub merge place
set_option linter.unusedVariables false
set_option linter.unusedSimpArgs false

abbrev pins (n a b i s : Nat) (st : St) : Prop := gt st.sl 0 = dataV n ∧ gt st.sl 1 = vi a ∧ gt st.sl 2 = vi b ∧ gt st.sl 7 = vi i ∧ gt st.sl 8 = vi s

theorem pins_scan {n a b i s : Nat} (hs : n ≤ 1152921504606846976) (hb : b ≤ n) (hi : 1 ≤ i) (hin : i ≤ n) (d : Array Int) (hd : d.size = n) (Q : Ex → St → Prop) (sl : Sl) (bs : Nat)
    (h : pins n a b i s ⟨sl, [rowsO d], bs⟩) (hq : ∀ st, pins n a b (Go.Sort.scanSorted Go.Sort.ltInt d b i) s st → st.hp = [rowsO d] → Q (.exit 2) st) :
    WI Tryz.prog (.loop slices_partialInsertionSortOrdered_int.b1) Q ⟨sl, [rowsO d], bs⟩ := by
  obtain ⟨S, hS⟩ : ∃ S, Go.Sort.scanSorted Go.Sort.ltInt d b i = S := ⟨_, rfl⟩
  rw [hS] at hq
  refine WI.loop 1 (by simp) (fun st => ∃ k : Nat, 1 ≤ k ∧ k ≤ n ∧ pins n a b k s st ∧ st.hp = [rowsO d] ∧ S = Go.Sort.scanSorted Go.Sort.ltInt d b k) (fun st => (b - (gt st.sl 7).num).toNat) ?_ ?_
  · exact ⟨i, hi, hin, h, rfl, hS.symm⟩
  · clear h
    rintro ⟨sl, hp, bs⟩ ⟨k, hk, hkn, ⟨h0, h1, h2, h7, h8⟩, rfl, he⟩
    rw [Go.Sort.scanSorted] at he
    by_cases hkb : k < b
    · obtain ⟨m, rfl⟩ : ∃ m, k = m + 1 := ⟨k - 1, by omega⟩
      have hm : m + 1 - 1 = m := by omega
      rw [hm] at he
      obtain ⟨q, hq'⟩ : ∃ q, m + 1 = q := ⟨_, rfl⟩
      rw [hq'] at he h7 hkb
      have k1 : q < d.size := by omega
      have k0 : m < d.size := by omega
      have k1' : q < n := by omega
      have k0' : m < n := by omega
      have hkb' : (q : Int) < b := by omega
      have hw : IntKind.i64.wrap ((q : Int) - 1) = (m : Int) := by rw [wrap64] <;> omega
      have hw2 : IntKind.i64.wrap ((q : Int) + 1) = ((q + 1 : Nat) : Int) := by rw [wrap64] <;> omega
      rw [get_bang d k1, get_bang d k0] at he
      simp -dsimp [↓call_f, slices_partialInsertionSortOrdered_int.b1, h0, h1, h2, h7, h8, hkb, hkb', hw, k1', k0', hd]
      refine (less_spec d[q] d[m]).use ?_
      by_cases hlt : Go.Sort.ltInt d[q] d[m] = true
      · simp only [hlt] at he
        rw [if_neg (by simp)] at he
        simp -dsimp [hlt, h0, h1, h2, h7, h8]
        exact hq _ ⟨by simp, by simp, by simp, by simp [he], by simp⟩ (by simp)
      · have hlt : Go.Sort.ltInt d[q] d[m] = false := by simpa using hlt
        simp only [hlt] at he
        rw [if_pos (by simp; omega)] at he
        simp -dsimp [hlt, h0, h1, h2, h7, h8, hw2, pins]
        exact ⟨⟨q + 1, by omega, by omega, by omega, he⟩, by omega⟩
    · have hkb' : ¬ (k : Int) < b := by omega
      rw [if_neg (by simp; omega)] at he
      simp -dsimp [slices_partialInsertionSortOrdered_int.b1, h0, h1, h2, h7, h8, hkb, hkb']
      exact hq _ ⟨by simp, by simp, by simp, by simp [he], by simp⟩ (by simp)

theorem shiftDown_size : ∀ (j : Nat) (d : Array Int), (Go.Sort.shiftDown Go.Sort.ltInt j d).size = d.size := by
  intro j
  induction j with
  | zero => intro d; rfl
  | succ j ih =>
    intro d
    simp only [Go.Sort.shiftDown]
    split
    · rfl
    · rw [ih, swp_size]

theorem shiftUp_size (b : Nat) : ∀ (k j : Nat) (d : Array Int), b - j ≤ k → (Go.Sort.shiftUp Go.Sort.ltInt b j d).size = d.size := by
  intro k
  induction k with
  | zero => intro j d h; rw [Go.Sort.shiftUp, if_neg (by omega)]
  | succ k ih =>
    intro j d h
    rw [Go.Sort.shiftUp]
    split
    · split
      · rfl
      · rw [ih _ _ (by omega), swp_size]
    · rfl

theorem pins_down {n a b i s j : Nat} (hs : n ≤ 1152921504606846976) (hj : j < n) (d : Array Int) (hd : d.size = n) (Q : Ex → St → Prop) (sl : Sl) (bs : Nat)
    (h : pins n a b i s ⟨sl, [rowsO d], bs⟩) (h9 : gt sl 9 = vi j) (hq : ∀ st, pins n a b i s st → st.hp = [rowsO (Go.Sort.shiftDown Go.Sort.ltInt j d)] → Q (.exit 4) st) :
    WI Tryz.prog (.loop slices_partialInsertionSortOrdered_int.b2) Q ⟨sl, [rowsO d], bs⟩ := by
  obtain ⟨S, hS⟩ : ∃ S, Go.Sort.shiftDown Go.Sort.ltInt j d = S := ⟨_, rfl⟩
  rw [hS] at hq
  refine WI.loop 1 (by simp) (fun st => ∃ (k : Nat) (d' : Array Int), k < n ∧ d'.size = n ∧ pins n a b i s st ∧ gt st.sl 9 = vi k ∧ st.hp = [rowsO d'] ∧ S = Go.Sort.shiftDown Go.Sort.ltInt k d') (fun st => (gt st.sl 9).num.toNat) ?_ ?_
  · exact ⟨j, d, hj, hd, h, h9, rfl, hS.symm⟩
  · clear h h9 hd
    rintro ⟨sl, hp, bs⟩ ⟨k, d', hk, hd, ⟨h0, h1, h2, h7, h8⟩, h9, rfl, he⟩
    have g9 := h9
    cases k with
    | zero =>
      have he : S = d' := he
      simp -dsimp [slices_partialInsertionSortOrdered_int.b2, h0, h1, h2, h7, h8, h9]
      exact hq _ ⟨by simp, by simp, by simp, by simp, by simp⟩ (by simp [he])
    | succ m =>
      simp only [Go.Sort.shiftDown] at he
      obtain ⟨q, hq'⟩ : ∃ q, m + 1 = q := ⟨_, rfl⟩
      rw [hq'] at he h9 g9
      have k1 : q < d'.size := by omega
      have k0 : m < d'.size := by omega
      have k1' : q < n := by omega
      have k0' : m < n := by omega
      have hge : (1 : Int) ≤ q := by omega
      have hne : ¬ q = m := by omega
      have hw : IntKind.i64.wrap ((q : Int) - 1) = (m : Int) := by rw [wrap64] <;> omega
      have hsw := swp_rows d' k1 k0
      rw [get_bang d' k1, get_bang d' k0] at he
      simp -dsimp [↓call_f, slices_partialInsertionSortOrdered_int.b2, h0, h1, h2, h7, h8, h9, hge, hw, k1', k0', hd]
      refine (less_spec d'[q] d'[m]).use ?_
      by_cases hlt : Go.Sort.ltInt d'[q] d'[m] = true
      · simp only [hlt] at he
        rw [if_neg (by simp)] at he
        simp -dsimp [hlt, h0, h1, h2, h7, h8, h9, hw, k1', k0', hd, hne, List.getElem_set, pins]
        exact ⟨⟨m, by omega, Go.Sort.swp d' q m, by rw [swp_size]; exact hd, rfl, hsw, he⟩, by omega⟩
      · have hlt : Go.Sort.ltInt d'[q] d'[m] = false := by simpa using hlt
        simp only [hlt] at he
        rw [if_pos (by simp)] at he
        simp -dsimp [hlt, h0, h1, h2, h7, h8, h9]
        exact hq _ ⟨by simp, by simp, by simp, by simp, by simp⟩ (by simp [he])

theorem pins_up {n a b i s j : Nat} (hs : n ≤ 1152921504606846976) (hb : b ≤ n) (hj1 : 1 ≤ j) (hj : j ≤ n) (d : Array Int) (hd : d.size = n) (Q : Ex → St → Prop) (sl : Sl) (bs : Nat)
    (h : pins n a b i s ⟨sl, [rowsO d], bs⟩) (h9 : gt sl 10 = vi j) (hq : ∀ st, pins n a b i s st → st.hp = [rowsO (Go.Sort.shiftUp Go.Sort.ltInt b j d)] → Q (.exit 6) st) :
    WI Tryz.prog (.loop slices_partialInsertionSortOrdered_int.b3) Q ⟨sl, [rowsO d], bs⟩ := by
  obtain ⟨S, hS⟩ : ∃ S, Go.Sort.shiftUp Go.Sort.ltInt b j d = S := ⟨_, rfl⟩
  rw [hS] at hq
  refine WI.loop 1 (by simp) (fun st => ∃ (k : Nat) (d' : Array Int), 1 ≤ k ∧ k ≤ n ∧ d'.size = n ∧ pins n a b i s st ∧ gt st.sl 10 = vi k ∧ st.hp = [rowsO d'] ∧ S = Go.Sort.shiftUp Go.Sort.ltInt b k d') (fun st => (b - (gt st.sl 10).num).toNat) ?_ ?_
  · exact ⟨j, d, hj1, hj, hd, h, h9, rfl, hS.symm⟩
  · clear h h9 hd
    rintro ⟨sl, hp, bs⟩ ⟨q, d', hk1, hk, hd, ⟨h0, h1, h2, h7, h8⟩, h9, rfl, he⟩
    have g9 := h9
    rw [Go.Sort.shiftUp] at he
    by_cases hqb : q < b
    · rw [if_pos hqb] at he
      obtain ⟨m, hm⟩ : ∃ m, q - 1 = m := ⟨_, rfl⟩
      rw [hm] at he
      have k1 : q < d'.size := by omega
      have k0 : m < d'.size := by omega
      have k1' : q < n := by omega
      have k0' : m < n := by omega
      have hqb' : (q : Int) < b := by omega
      have hne : ¬ q = m := by omega
      have hw : IntKind.i64.wrap ((q : Int) - 1) = (m : Int) := by rw [wrap64] <;> omega
      have hw2 : IntKind.i64.wrap ((q : Int) + 1) = ((q + 1 : Nat) : Int) := by rw [wrap64] <;> omega
      have hsw := swp_rows d' k1 k0
      rw [get_bang d' k1, get_bang d' k0] at he
      simp -dsimp [↓call_f, slices_partialInsertionSortOrdered_int.b3, h0, h1, h2, h7, h8, h9, hqb, hqb', hw, k1', k0', hd]
      refine (less_spec d'[q] d'[m]).use ?_
      by_cases hlt : Go.Sort.ltInt d'[q] d'[m] = true
      · simp only [hlt] at he
        rw [if_neg (by simp)] at he
        simp -dsimp [hlt, h0, h1, h2, h7, h8, h9, hw, hw2, k1', k0', hd, hne, List.getElem_set, pins]
        exact ⟨⟨q + 1, by omega, by omega, Go.Sort.swp d' q m, by rw [swp_size]; exact hd, by omega, hsw, he⟩, by omega⟩
      · have hlt : Go.Sort.ltInt d'[q] d'[m] = false := by simpa using hlt
        simp only [hlt] at he
        rw [if_pos (by simp)] at he
        simp -dsimp [hlt, h0, h1, h2, h7, h8, h9]
        exact hq _ ⟨by simp, by simp, by simp, by simp, by simp⟩ (by simp [he])
    · have hqb' : ¬ (q : Int) < b := by omega
      rw [if_neg hqb] at he
      simp -dsimp [slices_partialInsertionSortOrdered_int.b3, h0, h1, h2, h7, h8, h9, hqb, hqb']
      exact hq _ ⟨by simp, by simp, by simp, by simp, by simp⟩ (by simp [he])

theorem scanSorted_bound (d : Array Int) (b : Nat) : ∀ (k i : Nat), b - i ≤ k → i ≤ Go.Sort.scanSorted Go.Sort.ltInt d b i ∧ (i ≤ b → Go.Sort.scanSorted Go.Sort.ltInt d b i ≤ b) := by
  intro k
  induction k with
  | zero =>
    intro i h
    rw [Go.Sort.scanSorted, if_neg (by simp; omega)]
    exact ⟨Nat.le_refl _, fun h => h⟩
  | succ k ih =>
    intro i h
    rw [Go.Sort.scanSorted]
    split
    · next hc =>
      simp at hc
      have := ih (i + 1) (by omega)
      exact ⟨by omega, fun _ => this.2 (by omega)⟩
    · exact ⟨Nat.le_refl _, fun h => h⟩

set_option maxHeartbeats 1000000 in
theorem pins_spec (d : Array Int) (a b : Nat) (hab : a + 12 < b) (hb : b ≤ d.size) (hs : d.size ≤ 1152921504606846976) :
    DC Tryz.prog slices_partialInsertionSortOrdered_int.id [dataV d.size, vi a, vi b] [rowsO d] (fun r H => r = .bool (Go.Sort.partialInsertionSort Go.Sort.ltInt d a b).2 ∧ H = [rowsO (Go.Sort.partialInsertionSort Go.Sort.ltInt d a b).1]) := by
  refine DC.of slices_partialInsertionSortOrdered_int.ok (by simp) ?_
  obtain ⟨R, hR⟩ : ∃ R, Go.Sort.partialInsertionSort Go.Sort.ltInt d a b = R := ⟨_, rfl⟩
  rw [hR]
  unfold Go.Sort.partialInsertionSort at hR
  obtain ⟨n, hn⟩ : ∃ n, d.size = n := ⟨_, rfl⟩
  rw [hn]
  have w1 : IntKind.i64.wrap ((a : Int) + 1) = ((a + 1 : Nat) : Int) := by rw [wrap64] <;> omega
  simp -dsimp [↓loop_f, slices_partialInsertionSortOrdered_int.ir, w1]
  refine WI.mono (Q := fun e st => (e = .exit 0 ∧ R.2 = false ∧ st.hp = [rowsO R.1]) ∨ (e = .ret ∧ gt st.sl 6 = .bool R.2 ∧ st.hp = [rowsO R.1])) (WI.loop 1 (by simp) (fun st => ∃ (s i : Nat) (d' : Array Int), s ≤ 5 ∧ a + 1 ≤ i ∧ i ≤ b ∧ d'.size = n ∧ pins n a b i s st ∧ st.hp = [rowsO d'] ∧ R = Go.Sort.partialIns Go.Sort.ltInt a b (5 - s) i d') (fun st => (5 - (gt st.sl 8).num).toNat) ?_ ?_) ?_
  · exact ⟨0, a + 1, d, by omega, by omega, by omega, hn, ⟨by simp, by simp, by simp, by simp, by simp⟩, rfl, hR.symm⟩
  · rintro ⟨sl, hp, bs⟩ ⟨s, i, d', hs5, hi1, hib, hd, ⟨h0, h1, h2, h7, h8⟩, rfl, he⟩
    by_cases hlt5 : s < 5
    · obtain ⟨t, ht⟩ : ∃ t, 5 - s = t + 1 := ⟨4 - s, by omega⟩
      have ht' : 5 - (s + 1) = t := by omega
      rw [ht] at he
      simp only [Go.Sort.partialIns] at he
      have i5 : (s : Int) < 5 := by omega
      have g8 := h8
      obtain ⟨k, hk⟩ : ∃ k, Go.Sort.scanSorted Go.Sort.ltInt d' b i = k := ⟨_, rfl⟩
      have bk := scanSorted_bound d' b (b - i) i (Nat.le_refl _)
      rw [hk] at he bk
      have hkb := bk.2 hib
      have hk1 := bk.1
      unfold slices_partialInsertionSortOrdered_int.b0
      refine vc_cut (fun st => pins n a b i s st ∧ st.hp = [rowsO d']) (by simp -dsimp [h0, h1, h2, h7, h8, i5, pins]) ?_
      clear h0 h1 h2 h7 h8
      rintro ⟨sl, hp, bs⟩ ⟨h, rfl⟩
      refine vc_cut (fun st => ∃ (x : Nat) (d2 : Array Int), a + 1 ≤ x ∧ x ≤ b ∧ d2.size = n ∧ pins n a b x s st ∧ st.hp = [rowsO d2] ∧ R = Go.Sort.partialIns Go.Sort.ltInt a b t x d2) (vc_block_of ?_) ?_
      · refine vc_cut (fun st => pins n a b k s st ∧ st.hp = [rowsO d']) (vc_block_of (pins_scan (by omega) (by omega) (by omega) (by omega) d' hd _ _ _ h fun st q qh => ?_)) ?_
        · rw [hk] at q
          exact ⟨q, qh⟩
        clear h
        rintro ⟨sl, hp, bs⟩ ⟨⟨h0, h1, h2, h7, h8⟩, rfl⟩
        by_cases hkeq : k = b
        · rw [if_pos hkeq] at he
          have i1 : (k : Int) = b := by omega
          simp -dsimp [h0, h1, h2, h7, h8, i1, he]
        rw [if_neg hkeq] at he
        have i1 : ¬ (k : Int) = b := by omega
        refine vc_cut (fun st => pins n a b k s st ∧ st.hp = [rowsO d']) (by simp -dsimp [h0, h1, h2, h7, h8, i1, pins]) ?_
        clear h0 h1 h2 h7 h8
        rintro ⟨sl, hp, bs⟩ ⟨⟨h0, h1, h2, h7, h8⟩, rfl⟩
        have w2 : IntKind.i64.wrap ((b : Int) - a) = ((b - a : Nat) : Int) := by rw [wrap64] <;> omega
        by_cases h50 : b - a < 50
        · rw [if_pos h50] at he
          have i2 : ((b - a : Nat) : Int) < 50 := by omega
          simp -dsimp [h0, h1, h2, h7, h8, w2, i2, h50, he]
        rw [if_neg h50] at he
        have i2 : ¬ ((b - a : Nat) : Int) < 50 := by omega
        refine vc_cut (fun st => pins n a b k s st ∧ st.hp = [rowsO d']) (by simp -dsimp [h0, h1, h2, h7, h8, w2, i2, h50, pins]) ?_
        clear h0 h1 h2 h7 h8
        rintro ⟨sl, hp, bs⟩ ⟨⟨h0, h1, h2, h7, h8⟩, rfl⟩
        obtain ⟨m, hm⟩ : ∃ m, k - 1 = m := ⟨_, rfl⟩
        rw [hm] at he
        obtain ⟨d1, hd1⟩ : ∃ x, Go.Sort.swp d' k m = x := ⟨_, rfl⟩
        rw [hd1] at he
        have z1 : d1.size = n := by rw [← hd1, swp_size, hd]
        have k1 : k < d'.size := by omega
        have k0 : m < d'.size := by omega
        have k1' : k < n := by omega
        have k0' : m < n := by omega
        have hne : ¬ k = m := by omega
        have hsw := swp_rows d' k1 k0
        rw [hd1] at hsw
        have w3 : IntKind.i64.wrap ((k : Int) - 1) = (m : Int) := by rw [wrap64] <;> omega
        refine vc_cut (fun st => pins n a b k s st ∧ st.hp = [rowsO d1]) (by simp -dsimp [h0, h1, h2, h7, h8, w3, k1', k0', hd, hne, List.getElem_set, pins, hsw]) ?_
        clear h0 h1 h2 h7 h8
        rintro ⟨sl, hp, bs⟩ ⟨⟨h0, h1, h2, h7, h8⟩, rfl⟩
        obtain ⟨d2, hd2⟩ : ∃ x, (if k - a ≥ 2 then Go.Sort.shiftDown Go.Sort.ltInt m d1 else d1) = x := ⟨_, rfl⟩
        rw [hd2] at he
        have z2 : d2.size = n := by
          rw [← hd2]
          split
          · rw [shiftDown_size, z1]
          · exact z1
        have w4 : IntKind.i64.wrap ((k : Int) - a) = ((k - a : Nat) : Int) := by rw [wrap64] <;> omega
        refine vc_cut (fun st => pins n a b k s st ∧ st.hp = [rowsO d2]) ?_ ?_
        · by_cases hc : k - a ≥ 2
          · rw [if_pos hc] at hd2
            have ic : (2 : Int) ≤ ((k - a : Nat) : Int) := by omega
            simp -dsimp [↓loop_f, h0, h1, h2, h7, h8, w3, w4, ic]
            refine pins_down (n := n) (a := a) (b := b) (s := s) (i := k) (j := m) (by omega) k0' d1 z1 _ _ _ ⟨by simp, by simp, by simp, by simp, by simp⟩ (by simp) fun st q qh => ?_
            rw [hd2] at qh
            exact ⟨q, qh⟩
          · rw [if_neg hc] at hd2
            have ic : ¬ (2 : Int) ≤ ((k - a : Nat) : Int) := by omega
            simp -dsimp [h0, h1, h2, h7, h8, w4, ic, pins, hd2]
        clear h0 h1 h2 h7 h8
        rintro ⟨sl, hp, bs⟩ ⟨⟨h0, h1, h2, h7, h8⟩, rfl⟩
        obtain ⟨d3, hd3⟩ : ∃ x, (if b - k ≥ 2 then Go.Sort.shiftUp Go.Sort.ltInt b (k + 1) d2 else d2) = x := ⟨_, rfl⟩
        rw [hd3] at he
        have z3 : d3.size = n := by
          rw [← hd3]
          split
          · rw [shiftUp_size b (b - (k + 1)) (k + 1) d2 (Nat.le_refl _), z2]
          · exact z2
        have w5 : IntKind.i64.wrap ((b : Int) - k) = ((b - k : Nat) : Int) := by rw [wrap64] <;> omega
        have w6 : IntKind.i64.wrap ((k : Int) + 1) = ((k + 1 : Nat) : Int) := by rw [wrap64] <;> omega
        have fin : ∀ st, pins n a b k s st → st.hp = [rowsO d3] → ∃ (x : Nat) (d2 : Array Int), a + 1 ≤ x ∧ x ≤ b ∧ d2.size = n ∧ pins n a b x s st ∧ st.hp = [rowsO d2] ∧ R = Go.Sort.partialIns Go.Sort.ltInt a b t x d2 :=
          fun st q qh => ⟨k, d3, by omega, hkb, z3, q, qh, he⟩
        by_cases hc : b - k ≥ 2
        · rw [if_pos hc] at hd3
          have ic : (2 : Int) ≤ ((b - k : Nat) : Int) := by omega
          simp -dsimp [↓loop_f, h0, h1, h2, h7, h8, w5, w6, ic]
          refine pins_up (n := n) (a := a) (b := b) (s := s) (i := k) (j := k + 1) (by omega) (by omega) (by omega) (by omega) d2 z2 _ _ _ ⟨by simp, by simp, by simp, by simp, by simp⟩ (by simp) fun st q qh => ?_
          rw [hd3] at qh
          exact fin st q qh
        · rw [if_neg hc] at hd3
          have ic : ¬ (2 : Int) ≤ ((b - k : Nat) : Int) := by omega
          refine vc_mono (Q := fun e st => e = .norm ∧ pins n a b k s st ∧ st.hp = [rowsO d3]) ?_ (by simp -dsimp [h0, h1, h2, h7, h8, w5, ic, pins, hd3])
          rintro e st ⟨rfl, q, qh⟩
          exact fin st q qh
      · clear h
        rintro ⟨sl, hp, bs⟩ ⟨x, d2, hx1, hx2, z2, ⟨h0, h1, h2, h7, h8⟩, rfl, he⟩
        have w7 : IntKind.i64.wrap ((s : Int) + 1) = ((s + 1 : Nat) : Int) := by rw [wrap64] <;> omega
        simp -dsimp [h0, h1, h2, h7, h8, w7, g8, pins]
        exact ⟨⟨s + 1, by omega, x, by omega, by omega, d2, z2, ⟨by omega, by omega⟩, rfl, by rw [ht']; exact he⟩, by omega⟩
    · obtain rfl : s = 5 := by omega
      have he : R = (d', false) := he
      simp -dsimp [slices_partialInsertionSortOrdered_int.b0, h0, h1, h2, h7, h8, he]
  · rintro e ⟨sl, hp, bs⟩ (⟨rfl, hf, rfl⟩ | ⟨rfl, h6, rfl⟩)
    · simp -dsimp [hf, slices_partialInsertionSortOrdered_int.rs]
    · simp -dsimp [h6, slices_partialInsertionSortOrdered_int.rs]
end Go.Abs.G

