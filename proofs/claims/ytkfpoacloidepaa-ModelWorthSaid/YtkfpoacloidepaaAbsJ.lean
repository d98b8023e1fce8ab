import Derived.Test.YtkfpoacloidepaaAbsI
set_option linter.all false
/- Freezing: what is owned becomes what is only read. -/
namespace Go.Abs
set_option linter.unusedVariables false

def O.refs : O → List Nat
  | .mem _ refs _ => refs
  | .map _ refs _ => refs
  | _ => []

/-- It is not written any more. -/
def O.fz : O → O
  | .mem _ refs rows => .mem true refs rows
  | .map _ refs es => .map true refs es
  | .sit _ _ => .dead
  | o => o

mutual
/-- A value without owned parts. -/
def V.fz (H : Heap) : V → V
  | .own id es off len _ => .view es (((H.getD id .dead).rows.drop off).take len)
  | .ptr id _ i j => .ref ((H.getD id .dead).rows.getD i []) j
  | .mp id => .mview (H.getD id .dead).ents
  | .agg cs => .agg (V.fzL H cs)
  | .tup cs => .tup (V.fzL H cs)
  | .fn f fs cs => .fn f (V.fzL H fs) (V.fzL H cs)
  | .ifc t x => .ifc t (x.fz H)
  | x => x
def V.fzL (H : Heap) : List V → List V
  | [] => []
  | x :: l => x.fz H :: V.fzL H l
end

mutual
/-- May it be frozen? -/
def V.fzP (H : Heap) : V → Prop
  | .own id _ _ _ tot => (H.getD id .dead).isMem = true ∧ (H.getD id .dead).rows.length = tot ∧ (H.getD id .dead).refs = []
  | .ptr id tot i _ => (H.getD id .dead).isMem = true ∧ (H.getD id .dead).rows.length = tot ∧ (H.getD id .dead).refs = [] ∧ i < tot
  | .mp id => (H.getD id .dead).isMap = true ∧ (H.getD id .dead).refs = []
  | .agg cs => V.fzPL H cs
  | .tup cs => V.fzPL H cs
  | .fn _ fs cs => V.fzPL H fs ∧ V.fzPL H cs
  | .ifc _ x => x.fzP H
  | _ => True
def V.fzPL (H : Heap) : List V → Prop
  | [] => True
  | x :: l => x.fzP H ∧ V.fzPL H l
end

theorem fzL_length (H : Heap) (l : List V) : (V.fzL H l).length = l.length := by induction l <;> simp_all [V.fzL]

theorem fzL_get {H : Heap} {l : List V} {i : Nat} : (V.fzL H l)[i]? = (l[i]?).map (V.fz H) := by
  induction l generalizing i with
  | nil => simp [V.fzL]
  | cons x l ih => cases i <;> simp [V.fzL, ih]

theorem fzPL_get {H : Heap} {l : List V} {i : Nat} {x : V} (h : V.fzPL H l) (hx : l[i]? = some x) : x.fzP H := by
  induction l generalizing i with
  | nil => simp at hx
  | cons y l ih =>
    cases i with
    | zero => simp at hx; subst hx; exact h.1
    | succ i => exact ih h.2 hx

def Heap.fz (H : Heap) : List Nat → Heap
  | [] => H
  | i :: l => Heap.fz (H.set i ((H.getD i .dead).fz)) l

section
variable {w : World} {H : Heap} {β : Nat → Hd} {F : Nat → Prop}

/-- One object is frozen. -/
theorem adv_fz (hk : HOK w.heap H β F) (id : Nat) : Adv F w H β w (H.set id ((H.getD id .dead).fz)) β := by
  cases hid : H[id]? with
  | none =>
    rw [List.set_eq_of_length_le (by simpa using List.getElem?_eq_none_iff.1 hid)]
    exact ⟨hk, .refl _, .refl _ _⟩
  | some o =>
    rw [getD_some hid]
    have hupd : upd β id (β id) = β := by funext k; unfold upd; split <;> simp_all
    by_cases hres : o = .res
    · subst hres
      have : H.set id O.res.fz = H := by
        apply List.ext_getElem?
        intro k
        rw [List.getElem?_set]
        split
        · next e => subst e; simp only [lt_of_get hid, if_true, hid]; rfl
        · rfl
      rw [this]
      exact ⟨hk, .refl _, .refl _ _⟩
    have hnb : ∀ b, ownsB (H.set id o.fz) (upd β id (β id)) id b → False := by
      intro b hb
      unfold ownsB at hb
      rw [get_set hid] at hb
      cases o <;> exact hb
    obtain ⟨h1, h2, h3⟩ := hk.turn (hp' := w.heap) (o' := o.fz) (h' := β id) hid (Nat.le_refl _) (fun _ _ _ => rfl) (fun b hb => (hnb b hb).elim)
      (by cases o <;> simp_all [O.fz]) (fun g' hg _ => by
        left
        unfold hdOf at hg ⊢
        rw [get_set hid, upd_same] at hg
        rw [hid]
        cases o <;> first | exact hg | cases hg)
      (fun hle => by
        have hr := hk.ro id o hid
        have hself : ∀ {b : Nat}, (∀ fz refs rows, o = .mem fz refs rows → (β id).b = b) → (∀ fz refs es, o = .map fz refs es → (β id).b = b) → (fun b => owned H β b ∨ F b) b → True := fun _ _ _ => trivial
        cases o with
        | res => trivial
        | dead => trivial
        | sit s pos => trivial
        | mem fz refs rows =>
          rcases hr with hr | ⟨q1, q2, q3, q4, q5, cs, E, fr, q6, q7, q8, q9⟩
          · exact .inl hr
          · refine .inr ⟨q1, q2, q3, q4, fun _ e => ?_, cs, E, fr, q6, by simp, q8, fun i row hi hlo j x hj => ?_⟩
            · rcases e with ⟨k, e⟩ | e
              · by_cases hki : k = id
                · subst hki; exact hnb _ e
                · have e' := (ownsB_set_ne hki).1 e
                  cases fz with
                  | true => exact q5 rfl (.inl ⟨k, e'⟩)
                  | false => exact hki (hk.one _ _ _ e' (by unfold ownsB; rw [hid]; exact ⟨q1, rfl⟩))
              · cases fz with
                | true => exact q5 rfl (.inr e)
                | false => exact (hk.far _ e).2 ⟨id, by unfold ownsB; rw [hid]; exact ⟨q1, rfl⟩⟩
            · obtain ⟨v, e1, e2, e3⟩ := q9 i row hi hlo j x hj
              exact ⟨v, e1, e2, e3.mono (hle.only refs)⟩
        | map fz refs es =>
          obtain ⟨q1, ents, clock, q2, q3, q4, q5, q6⟩ := hr
          refine ⟨fun _ e => ?_, ents, clock, q2, q3, q4, q5, fun i e x he hx => ?_⟩
          · rcases e with ⟨k, e⟩ | e
            · by_cases hki : k = id
              · subst hki; exact hnb _ e
              · have e' := (ownsB_set_ne hki).1 e
                cases fz with
                | true => exact q1 rfl (.inl ⟨k, e'⟩)
                | false => exact hki (hk.one _ _ _ e' (by unfold ownsB; rw [hid]))
            · cases fz with
              | true => exact q1 rfl (.inr e)
              | false => exact (hk.far _ e).2 ⟨id, by unfold ownsB; rw [hid]⟩
          · exact ⟨(q6 i e x he hx).1.mono (hle.only []), (q6 i e x he hx).2.mono (hle.only refs)⟩)
    rw [hupd] at h1 h2
    exact ⟨h1, h2, .refl _ _⟩

theorem adv_fzL (l : List Nat) : ∀ {H : Heap}, HOK w.heap H β F → Adv F w H β w (H.fz l) β := by
  induction l with
  | nil => intro H hk; exact ⟨hk, .refl _, .refl _ _⟩
  | cons i l ih => intro H hk; exact (adv_fz hk i).trans (ih (adv_fz hk i).hok)

theorem fz_idem (o : O) : o.fz.fz = o.fz := by cases o <;> rfl

theorem Heap.fz_get (l : List Nat) : ∀ (H : Heap) (k : Nat), (H.fz l)[k]? = (H[k]?).map fun o => if k ∈ l then o.fz else o := by
  induction l with
  | nil => intro H k; simp [Heap.fz]
  | cons i l ih =>
    intro H k
    simp only [Heap.fz]
    rw [ih]
    by_cases hki : k = i
    · subst hki
      cases hk : H[k]? with
      | none => rw [List.set_eq_of_length_le (by simpa using List.getElem?_eq_none_iff.1 hk), hk]; simp
      | some o => rw [get_set hk, getD_some hk]; simp [fz_idem]
    · rw [getElem?_set_ne' hki]; simp [hki]

theorem mem_get' {id : Nat} (h : (H.getD id .dead).isMem = true) : ∃ fz refs rows, H[id]? = some (.mem fz refs rows) ∧ H.getD id .dead = .mem fz refs rows := by
  cases hid : H[id]? with
  | none => simp [List.getD, hid, O.isMem] at h
  | some o =>
    have hgd : H.getD id .dead = o := getD_some hid
    rw [hgd] at h ⊢
    cases o with
    | mem fz refs rows => exact ⟨_, _, _, rfl, rfl⟩
    | _ => simp [O.isMem] at h

theorem map_get' {id : Nat} (h : (H.getD id .dead).isMap = true) : ∃ fz refs es, H[id]? = some (.map fz refs es) ∧ H.getD id .dead = .map fz refs es := by
  cases hid : H[id]? with
  | none => simp [List.getD, hid, O.isMap] at h
  | some o =>
    have hgd : H.getD id .dead = o := getD_some hid
    rw [hgd] at h ⊢
    cases o with
    | map fz refs rows => exact ⟨_, _, _, rfl, rfl⟩
    | _ => simp [O.isMap] at h

theorem RV.strip {c : Cx} {v : Value} {x : V} (h : RV (c.only []) v x) {c' : Cx} (hs : c.hp.size ≤ c'.hp.size) (hb : ∀ b, b < c.hp.size → ¬ c.own b → c'.hp[b]? = c.hp[b]? ∧ ¬ c'.own b) : RV (c'.only []) v x :=
  h.mono ⟨hs, hb, fun _ hl => by simp [Cx.only] at hl, fun _ _ hl => by simp [Cx.only] at hl⟩

/-- The frozen value, in the frozen heap. -/
theorem RV.fz {l : List Nat} (hk : HOK w.heap H β F) {c : Cx} {v : Value} {x : V} (hr : RV c v x) (hc : c = cx w.heap H β F) (hp : x.fzP H) (hl : ∀ i ∈ x.ids, i ∈ l) :
    RV ((cx w.heap (H.fz l) β F).only []) v (x.fz H) := by
  have adv := adv_fzL (F := F) (w := w) (β := β) l hk
  have hle := adv.le
  have hk' := adv.hok
  induction hr with
  | any => exact .any
  | a => exact .a
  | ptr hlv h =>
    rename_i id tot i j
    subst hc
    obtain ⟨h1, h2, h3, h4⟩ := hp
    obtain ⟨fz, refs, rows, hid, hgd⟩ := mem_get' h1
    simp only [V.fz]
    rw [hgd] at h2 h3 ⊢
    simp only [O.rows, O.refs] at h2 h3 ⊢
    subst h3
    have hid' : (H.fz l)[id]? = some (.mem true [] rows) := by
      rw [Heap.fz_get, hid]; simp [hl id (by simp [V.ids]), O.fz]
    obtain ⟨g1, g2⟩ := h ((β id).wt rows.length) (by show hdOf H β id = _; simp [hdOf, hid])
    obtain ⟨g3, g4, rfl⟩ := g2 h2
    rcases hk'.ro id _ hid' with hr | ⟨q1, q2, q3, q4, q5, cs, E, fr, q6, q7, q8, q9⟩
    · have g4' : (β id).nil = false := g4
      rw [hr.1] at g4'; cases g4'
    · have hi : rows[i]? = some (rows.getD i []) := get_of_getD (by omega)
      have key : ∀ (k : Nat) (y : V), (rows.getD i [])[k]? = some y → ∃ u, look w.heap (β id).b ((β id).o + (i - (β id).lo) * (β id).es + k) = some u ∧ u.oneCell' = true ∧ RV ((cx w.heap (H.fz l) β F).only []) u y := by
        intro k y hy
        obtain ⟨u, e1, e2, e3⟩ := q9 i _ hi g3 k y hy
        refine ⟨u, ?_, e2, e3⟩
        unfold look
        have q6' : w.heap[(β id).b]? = some (.cells cs E fr) := q6
        rw [q6']; exact e1
      refine .ref (fun k => (look w.heap (β id).b ((β id).o + (i - (β id).lo) * (β id).es + k)).getD default) (q5 rfl) (hp_lt q6) (fun k y hy => ?_) fun k y hy => ?_
      · obtain ⟨u, e1, e2, e3⟩ := key k y hy
        show look w.heap (β id).b ((β id).o + (i - (β id).lo) * (β id).es + k) = _ ∧ _
        rw [e1]; exact ⟨rfl, e2⟩
      · obtain ⟨u, e1, e2, e3⟩ := key k y hy
        rw [e1]
        exact e3.mono ⟨Nat.le_refl _, fun _ _ hn => ⟨rfl, hn⟩, fun _ hl => by simp [Cx.only] at hl, fun _ _ hl => by simp [Cx.only] at hl⟩
  | own hlv h =>
    rename_i id es off len tot
    subst hc
    obtain ⟨h1, h2, h3⟩ := hp
    obtain ⟨fz, refs, rows, hid, hgd⟩ := mem_get' h1
    simp only [V.fz]
    rw [hgd] at h2 h3 ⊢
    simp only [O.rows, O.refs] at h2 h3 ⊢
    subst h3
    have hid' : (H.fz l)[id]? = some (.mem true [] rows) := by
      rw [Heap.fz_get, hid]; simp [hl id (by simp [V.ids]), O.fz]
    obtain ⟨g1, g2⟩ := h ((β id).wt rows.length) (by show hdOf H β id = _; simp [hdOf, hid])
    obtain ⟨g3, g4, g5⟩ := g2 h2
    have g3' : (β id).lo ≤ off := g3
    have g4' : (β id).es = es := g4
    rcases g5 with ⟨g6, rfl, rfl⟩ | ⟨g6, ad, rfl, g7, g8⟩
    · simp only [List.take_zero]
      exact .nilv
    · have g7' : off + len ≤ rows.length := g7
      rcases hk'.ro id _ hid' with hr | ⟨q1, q2, q3, q4, q5, cs, E, fr, q6, q7, q8, q9⟩
      · have g6' : (β id).nil = false := g6
        rw [hr.1] at g6'; cases g6'
      · have hlen : ((rows.drop off).take len).length = len := by simp; omega
        have hget : ∀ (i : Nat) (row : List V), ((rows.drop off).take len)[i]? = some row → rows[off + i]? = some row := by
          intro i row h
          rw [List.getElem?_take] at h
          split at h
          · rw [List.getElem?_drop] at h; exact h
          · cases h
        have key : ∀ (i : Nat) (row : List V), ((rows.drop off).take len)[i]? = some row → ∀ (k : Nat) (y : V), row[k]? = some y →
            ∃ u, look w.heap (β id).b ((β id).o + (off - (β id).lo) * es + i * es + k) = some u ∧ u.oneCell' = true ∧ RV ((cx w.heap (H.fz l) β F).only []) u y := by
          intro i row hi k y hy
          obtain ⟨u, e1, e2, e3⟩ := q9 _ _ (hget i row hi) (by omega) k y hy
          refine ⟨u, ?_, e2, e3⟩
          unfold look
          have q6' : w.heap[(β id).b]? = some (.cells cs E fr) := q6
          rw [q6']
          rw [g4', show off + i - (β id).lo = (off - (β id).lo) + i from by omega, Nat.add_mul, ← Nat.add_assoc] at e1
          exact e1
        have had : (rows.drop off).take len ≠ [] → ad = ⟨(β id).b, (β id).o + (off - (β id).lo) * es, none⟩ := by
          intro hne
          have : 0 < len := by rw [← hlen]; exact List.length_pos_iff.2 hne
          have h9 := g8 (by show off - (β id).lo < (β id).cap; omega)
          rw [h9]
          show (⟨(β id).b, (β id).o + (off - (β id).lo) * (β id).es, none⟩ : Addr) = _
          rw [g4']
        have := RV.view (c := (cx w.heap (H.fz l) β F).only []) (es := es) (rows := (rows.drop off).take len) (ad := ad) (cap := (β id).cap - (off - (β id).lo))
          (fun i k => (look w.heap (β id).b ((β id).o + (off - (β id).lo) * es + i * es + k)).getD default)
          (fun hne => by rw [had hne]; exact ⟨q5 rfl, hp_lt q6, rfl⟩) (by rw [hlen]; omega) (fun i row hi => by rw [← g4']; exact q4 _ _ (hget i row hi)) (fun i row hi k y hy => by
            obtain ⟨u, e1, e2, e3⟩ := key i row hi k y hy
            rw [had (by intro e; rw [e] at hi; simp at hi)]
            show look w.heap (β id).b _ = _ ∧ _
            rw [e1]; exact ⟨rfl, e2⟩) (fun i row hi k y hy => by
            obtain ⟨u, e1, e2, e3⟩ := key i row hi k y hy
            rw [e1]
            exact e3.mono ⟨Nat.le_refl _, fun _ _ hn => ⟨rfl, hn⟩, fun _ hl => by simp [Cx.only] at hl, fun _ _ hl => by simp [Cx.only] at hl⟩)
        rw [hlen] at this
        exact this
  | ref g hb hs hg hr ih =>
    subst hc
    refine .ref g (hle.same _ hs hb).2 hs hg fun k x hk => ?_
    exact (hr k x hk).strip (Nat.le_refl _) fun b hb hn => hle.same b hb hn
  | nilv => exact .nilv
  | view g hb hcap hlen hg hr ih =>
    subst hc
    refine .view g (fun hne => ?_) hcap hlen hg fun i row hi j x hj => ?_
    · obtain ⟨q1, q2, q3⟩ := hb hne
      exact ⟨(hle.same _ q2 q1).2, q2, q3⟩
    · exact (hr i row hi j x hj).strip (Nat.le_refl _) fun b hb hn => hle.same b hb hn
  | agg hl' ho h ih =>
    refine .agg (by rw [fzL_length]; exact hl') ho fun i v x h1 h2 => ?_
    rw [fzL_get] at h2
    simp only [Option.map_eq_some_iff] at h2
    obtain ⟨y, hy, rfl⟩ := h2
    exact ih i v y h1 hy hc (fzPL_get hp hy) fun k hk => hl k (by simp only [V.ids]; exact idsL_mem hy hk)
  | tup hl' h ih =>
    refine .tup (by rw [fzL_length]; exact hl') fun i v x h1 h2 => ?_
    rw [fzL_get] at h2
    simp only [Option.map_eq_some_iff] at h2
    obtain ⟨y, hy, rfl⟩ := h2
    exact ih i v y h1 hy hc (fzPL_get hp hy) fun k hk => hl k (by simp only [V.ids]; exact idsL_mem hy hk)
  | fn hl' hl'' h h' ih ih' =>
    refine .fn (by rw [fzL_length]; exact hl') (by rw [fzL_length]; exact hl'') (fun i v x h1 h2 => ?_) fun i v x h1 h2 => ?_
    · rw [fzL_get] at h2
      simp only [Option.map_eq_some_iff] at h2
      obtain ⟨y, hy, rfl⟩ := h2
      exact ih i v y h1 hy hc (fzPL_get hp.1 hy) fun k hk => hl k (by simp only [V.ids, List.mem_append]; exact .inl (idsL_mem hy hk))
    · rw [fzL_get] at h2
      simp only [Option.map_eq_some_iff] at h2
      obtain ⟨y, hy, rfl⟩ := h2
      exact ih' i v y h1 hy hc (fzPL_get hp.2 hy) fun k hk => hl k (by simp only [V.ids, List.mem_append]; exact .inr (idsL_mem hy hk))
  | mp hlv h =>
    rename_i id
    subst hc
    obtain ⟨h1, h3⟩ := hp
    obtain ⟨fz, refs, es, hid, hgd⟩ := map_get' h1
    simp only [V.fz]
    rw [hgd] at h3 ⊢
    simp only [O.ents, O.refs] at h3 ⊢
    subst h3
    have hid' : (H.fz l)[id]? = some (.map true [] es) := by
      rw [Heap.fz_get, hid]; simp [hl id (by simp [V.ids]), O.fz]
    have := h ((β id).wt 0) (by show hdOf H β id = _; simp [hdOf, hid]) rfl
    subst this
    obtain ⟨q1, ents, clock, q2, q3, q4, q5, q6⟩ := hk'.ro id _ hid'
    have up : ∀ {u : Value} {y : V}, RV ((cx w.heap (H.fz l) β F).only []) u y → RV (((cx w.heap (H.fz l) β F).only []).only []) u y := fun h =>
      h.mono ⟨Nat.le_refl _, fun _ _ hn => ⟨rfl, hn⟩, fun _ hl => by simp [Cx.only] at hl, fun _ _ hl => by simp [Cx.only] at hl⟩
    exact .mview (q1 rfl) q2 q3 (fun i e x he hx => up (q6 i e x he hx).1) fun i e x he hx => up (q6 i e x he hx).2
  | mview hb hm hl' hk1 hv1 ihk ihv =>
    subst hc
    have hs := hp_lt hm
    have up : ∀ {u : Value} {y : V}, RV ((cx w.heap H β F).only []) u y → RV (((cx w.heap (H.fz l) β F).only []).only []) u y := fun h =>
      h.strip (c' := (cx w.heap (H.fz l) β F).only []) (Nat.le_refl _) fun b hb hn => hle.same b hb hn
    exact .mview (hle.same _ hs hb).2 hm hl' (fun i e x he hx => up (hk1 i e x he hx)) fun i e x he hx => up (hv1 i e x he hx)
  | ifc h ih => exact .ifc (ih hc hp fun k hk => hl k (by simp only [V.ids]; exact hk))

end
end Go.Abs
