import Derived.Test.YtgbkambljlijmaaGreatRmV1
import Derived.Orders
import Derived.LoopN
set_option linter.all false
/- Slices that are made and never written: their elements name no objects. -/
namespace Go.Abs
set_option linter.unusedVariables false

theorem idsL_nil_iff {l : List V} : V.idsL l = [] ↔ ∀ x ∈ l, x.ids = [] := by
  induction l with
  | nil => simp [V.idsL]
  | cons x l ih => simp [V.idsL, ih]

theorem idsL_fillV : ∀ (ps : List (Nat × Nat × V)) (cs : List V), V.idsL cs = [] → (∀ p ∈ ps, V.idsL p.2.2.cells = []) → V.idsL (fillV cs ps) = [] := by
  intro ps
  induction ps with
  | nil => intro cs h _; exact h
  | cons p ps ih =>
    intro cs h hp
    obtain ⟨off, n, x⟩ := p
    simp only [fillV]
    refine ih _ ?_ fun q hq => hp q (by simp [hq])
    rw [idsL_nil_iff] at h ⊢
    intro y hy
    simp only [List.mem_append] at hy
    rcases hy with (hy | hy) | hy
    · exact h y (List.mem_of_mem_take hy)
    · exact (idsL_nil_iff.1 (hp (off, n, x) (by simp))) y hy
    · exact h y (List.mem_of_mem_drop hy)

theorem cells_oid {x : V} (h : V.idsL x.cells = []) (k : Nat) : x.oid ≠ some k := by
  cases x <;> simp [V.oid, V.cells, V.idsL, V.ids] at h ⊢

section
variable {P : Program} {w : World} {β : Nat → Hd} {F : Nat → Prop} {N : Nat} {st : St} {a : Act}

/-- A new block that no object is. -/
theorem adv_push {H : Heap} {o : Obj} (hk : HOK w.heap H β F) : Adv F w H β { w with heap := w.heap.push o } H β := by
  have hsame : ∀ b, b < w.heap.size → (w.heap.push o)[b]? = w.heap[b]? := fun b hb => by
    rw [Array.getElem?_push_lt hb]; exact (Array.getElem?_eq_getElem hb).symm
  have hle : (cx w.heap H β F).le (cx (w.heap.push o) H β F) :=
    ⟨by simp [cx], fun b hb hn => ⟨hsame b hb, hn⟩, fun _ h => h, fun _ _ _ e => .inl e⟩
  refine ⟨⟨fun id ob hob => ?_, hk.one, fun b hb => ⟨by have := (hk.far b hb).1; simp; omega, (hk.far b hb).2⟩⟩, hle, ⟨rfl, rfl, rfl, by simp, fun b hb _ => hsame b hb⟩⟩
  have hro := hk.ro id ob hob
  by_cases hb : (β id).b < w.heap.size
  · refine hro.mono hle (hsame _ hb) (fun h => h) fun refs rows e hn b hs => ?_
    subst e
    rcases hro with hro | ⟨_, _, _, q4⟩
    · rw [hro.1] at hn; cases hn
    · exact hsame b (q4.1.lt b (.inr hs))
  · cases ob with
    | res => trivial
    | dead => trivial
    | mem fz refs rows =>
      rcases hro with hro | ⟨_, _, _, _, _, cs, E, fr, h6, _⟩
      · exact .inl hro
      · exact absurd (hp_lt h6) hb
    | map fz refs es =>
      obtain ⟨_, ents, clock, h2, _⟩ := hro
      exact absurd (hp_lt h2) hb
    | sit s pos =>
      obtain ⟨_, _, _, _, h5⟩ := hro
      exact absurd (hp_lt h5) hb
    | tree refs rows =>
      rcases hro with hro | ⟨_, _, _, q4⟩
      · exact .inl hro
      · exact absurd (q4.1.lt _ (.inl rfl)) hb

theorem sound_bsv {o : Oper} {t e : TypeId} {len : Nat} {parts : Array (Nat × Operand)} {i : TypeInfo} {z : Value} (hR : Rel w β F N st a) (ho : o.op = .buildSlice t len parts)
    (hu : P.underlying t = some (.slice e)) (hi : P.info? e = some i) (hz : i.zero = some z) (hsz : z.cells.size = i.size) (hpos : 0 < i.size) (hsmall : len * i.size ≤ 16777216) (hone : z.cells.toList.all (·.oneCell'))
    (hd : ∀ t, o.dst = some t → t < N) {k : St → Prop} (h : (I.bsv o.dst i.size len (z.cells.toList.map .a) parts.toList).vc P k st) (Q : Exit → Act → World → Prop) :
    o.wp P a w (Then P F N w st β k) Q := by
  have hk := hR.hok
  obtain ⟨p2, p3, p4⟩ := h
  have hone' : ∀ (i : Nat) (u : Value), z.cells[i]? = some u → u.oneCell' = true := fun i u hu => List.all_eq_true.1 hone u (by simpa using Array.mem_of_getElem? hu)
  have hzp : 0 < z.cells.size := by rw [hsz]; exact hpos
  have base : ∀ (k : Nat) (u : Value), ((Array.range (len * i.size)).map (z.cells[· % z.cells.size]!))[k]? = some u → k < len * i.size ∧ z.cells[k % z.cells.size]? = some u := by
    intro k u hk'
    simp only [Array.getElem?_map, Option.map_eq_some_iff] at hk'
    obtain ⟨q, hq, rfl⟩ := hk'
    obtain ⟨hlt, hq⟩ := Array.getElem?_eq_some_iff.1 hq
    simp at hlt hq
    subst hq
    refine ⟨hlt, ?_⟩
    have := Nat.mod_lt k hzp
    rw [getElem!_pos z.cells _ this]
    exact Array.getElem?_eq_getElem this
  have hfl : (List.flatten (List.replicate len (z.cells.toList.map V.a))).length = len * i.size := by simp [hsz]
  have hids0 : V.idsL (List.flatten (List.replicate len (z.cells.toList.map V.a))) = [] := by
    rw [idsL_nil_iff]
    intro x hx
    simp only [List.mem_flatten, List.mem_replicate] at hx
    obtain ⟨l, ⟨_, rfl⟩, hx⟩ := hx
    obtain ⟨u, _, rfl⟩ := List.mem_map.1 hx
    rfl
  obtain ⟨vs, h1, h2, h3, h4⟩ := run_fill (c := cx w.heap st.hp β F) (fun k => some (k * i.size, i.size)) (parts.toList.map fun p => (p.1, a.eval p.2)) (parts.toList.map fun p => (p.1 * i.size, i.size, st.ev p.2))
    ((Array.range (len * i.size)).map (z.cells[· % z.cells.size]!)) (List.flatten (List.replicate len (z.cells.toList.map V.a)))
    (by rw [hfl]; simp) (fun k u y hu hy => by
      obtain ⟨b1, b2⟩ := base k u hu
      rw [flatten_replicate_get _ _ _ (by simpa [hsz] using b1)] at hy
      simp only [List.length_map, Array.length_toList, List.getElem?_map, Array.getElem?_toList, b2, Option.map_some, Option.some.injEq] at hy
      subst hy
      exact .a) (by simp) (fun j q p hq hp' => by
      simp only [List.getElem?_map, Option.map_eq_some_iff] at hq hp'
      obtain ⟨q0, hq0, rfl⟩ := hq
      obtain ⟨p0, hp0, rfl⟩ := hp'
      rw [hq0] at hp0; injection hp0 with hp0; subst hp0
      obtain ⟨_, g1, g2⟩ := p3 q0 (List.mem_of_getElem? hq0)
      obtain ⟨s1, s2, s3, s4⟩ := (hR.ev q0.2).sized hk g1
      refine ⟨rfl, s1, s2, ?_, s3, s4⟩
      rw [hfl]
      have : (q0.1 + 1) * i.size ≤ len * i.size := Nat.mul_le_mul_right _ g2
      rw [Nat.add_mul] at this
      simp only; omega) (fun k u hu => hone' _ _ (base k u hu).2)
  have hids : V.idsL (fillV (List.flatten (List.replicate len (z.cells.toList.map V.a))) (parts.toList.map fun (p : Nat × Operand) => (p.1 * i.size, i.size, st.ev p.2))) = [] := by
    refine idsL_fillV _ _ hids0 fun p hp => ?_
    obtain ⟨q0, hq0, rfl⟩ := List.mem_map.1 hp
    exact (p3 q0 hq0).1
  simp only [I.bsvV] at p4
  generalize hxs : fillV (List.flatten (List.replicate len (z.cells.toList.map V.a))) (parts.toList.map fun (p : Nat × Operand) => (p.1 * i.size, i.size, st.ev p.2)) = xs at *
  have hlen : xs.length = len * i.size := by
    rw [← hxs, fillV_length _ _ fun p hp => ?_, hfl]
    obtain ⟨q0, hq0, rfl⟩ := List.mem_map.1 hp
    obtain ⟨_, g1, g2⟩ := p3 q0 hq0
    obtain ⟨s1, s2, s3, s4⟩ := (hR.ev q0.2).sized hk g1
    rw [hfl]
    have : (q0.1 + 1) * i.size ≤ len * i.size := Nat.mul_le_mul_right _ g2
    rw [Nat.add_mul] at this
    simp only; omega
  have adv := adv_push (F := F) (o := .cells vs e) hk
  have hnown : ¬ (cx (w.heap.push (.cells vs e)) st.hp β F).own w.heap.size := by
    rintro (⟨id, h⟩ | h)
    · unfold ownsB at h
      split at h
      · next refs rows hid =>
        obtain ⟨hn, hb⟩ := h
        rcases hk.ro id _ hid with hr | ⟨_, _, _, _, _, cs, E, fr, h6, _⟩
        · rw [hr.1] at hn; cases hn
        · have := hp_lt h6
          have : (β id).b < w.heap.size := this
          omega
      · next refs es hid =>
        obtain ⟨_, ents, clock, h2, _⟩ := hk.ro id _ hid
        have := hp_lt h2
        have : (β id).b < w.heap.size := this
        omega
      · next s pos hid =>
        obtain ⟨_, _, _, _, h5⟩ := hk.ro id _ hid
        have := hp_lt h5
        have : (β id).b < w.heap.size := this
        omega
      · next refs rows hid =>
        obtain ⟨hn, hb⟩ := h
        rcases hk.ro id _ hid with hr | ⟨_, _, _, q4⟩
        · rw [hr.1] at hn; cases hn
        · have := q4.1.lt _ hb
          have : w.heap.size < w.heap.size := this
          omega
      · exact h
    · have := (hk.far _ h).1
      omega
  refine upon_value (s := Instr.buildSlice t len (parts.map fun (i, x) => (i, a.eval x))) (by obtain ⟨dst, op, ty, pos, af, gu⟩ := o; simp only at ho; subst ho; rfl) (v := .slice (some ⟨w.heap.size, 0, none⟩) len len) (w' := { w with heap := w.heap.push (.cells vs e) }) ?_
    ⟨β, _, ⟨by rw [put_hp]; exact adv, (hR.adv adv).put hd ?_, by rw [put_hp]; exact Nat.le_refl _⟩, p4⟩
  · have hp1 : (parts.map fun x => (x.1, a.eval x.2)).toList = parts.toList.map fun p => (p.1, a.eval p.2) := by simp
    simp only [Instr.buildSlice, Sem.run_bind, run_underlying' hu, run_sizeOf' hi, Result.andThen_ok, run_zeroValue' hi hz]
    rw [if_neg (by omega)]
    by_cases h0 : len * i.size = 0
    · rw [if_pos h0]
      have e0 : (Array.range (len * i.size)).map (((#[] : Array Value))[· % ((#[] : Array Value)).size]!) = (Array.range (len * i.size)).map (z.cells[· % z.cells.size]!) := by
        simp [h0]
      simp only [Sem.run_bind, Result.andThen_ok, Sem.run_pure, hp1, e0, h1, newRow, run_newObj]
    · rw [if_neg h0]
      simp only [Sem.run_bind, run_zeroValue' hi hz, Result.andThen_ok, Sem.run_pure, hp1, h1, newRow, run_newObj]
  · split
    · next h0 => subst h0; exact .nul
    · have key : ∀ (k : Nat) (row : List V), (chunk i.size len xs)[k]? = some row → ∀ (j : Nat) (y : V), row[j]? = some y → ∃ u, vs[k * i.size + j]? = some u ∧ xs[k * i.size + j]? = some y := by
        intro k row hk' j y hj
        obtain ⟨e1, e2⟩ := chunk_get _ _ _ _ hk'
        rw [e1, List.getElem?_take] at hj
        split at hj
        · rw [List.getElem?_drop] at hj
          have hlt : k * i.size + j < vs.size := by rw [h2]; exact lt_of_get hj
          exact ⟨_, Array.getElem?_eq_getElem hlt, hj⟩
        · cases hj
      have := RV.view (c := cx (w.heap.push (.cells vs e)) st.hp β F) (es := i.size) (rows := chunk i.size len xs) (ad := ⟨w.heap.size, 0, none⟩) (cap := len) (fun k j => (vs[k * i.size + j]?).getD undef)
        (fun _ => ⟨hnown, by show w.heap.size < (w.heap.push _).size; simp, rfl⟩) (by rw [chunk_length]; exact Nat.le_refl _) (fun k row hk' => by
          obtain ⟨e1, e2⟩ := chunk_get _ _ _ _ hk'
          rw [e1]; simp [hlen]
          have : (k + 1) * i.size ≤ len * i.size := Nat.mul_le_mul_right _ e2
          rw [Nat.add_mul] at this
          omega) (fun k row hk' j y hj => by
          obtain ⟨u, hu, _⟩ := key k row hk' j y hj
          rw [hu]
          refine ⟨?_, h4 _ _ hu⟩
          show look (w.heap.push (.cells vs e)) w.heap.size (0 + k * i.size + j) = some u
          unfold look
          simp [hu]) (fun k row hk' j y hj => by
          obtain ⟨u, hu, hy⟩ := key k row hk' j y hj
          rw [hu]
          have hyid : y.ids = [] := (idsL_nil_iff.1 hids) y (List.mem_of_getElem? hy)
          exact ((h3 _ _ _ hu hy).mono adv.le).onlyOf [] fun q hq => by rw [hyid] at hq; cases hq)
      rw [chunk_length] at this
      exact this

end
end Go.Abs

/- append. -/
namespace Go.Abs
set_option linter.unusedVariables false

section
variable {P : Program} {w : World} {β : Nat → Hd} {F : Nat → Prop} {N : Nat} {st : St} {a : Act}

/-- The cells of a slice's rows, loaded. -/
theorem run_firstCells {v : Value} {x : V} {es : Nat} (hk : HOK w.heap st.hp β F) (hr : RV (cx w.heap st.hp β F) v x) (ho : okSl st.hp x) (he : x.slEs es) :
    ∃ base m c news, v = .slice base m c ∧ (m : Int) = x.slLen ∧ m ≤ c ∧ (x.rowsOf st.hp).length = m ∧ (∀ row ∈ x.rowsOf st.hp, row.length = es) ∧
      (Builtin.firstCells es m v).run P w = .ok news w ∧ news.size = m * es ∧ (∀ (k : Nat) (u : Value), news[k]? = some u → u.oneCell' = true) ∧
      ∀ (i : Nat) (row : List V) (j : Nat) (y : V), (x.rowsOf st.hp)[i]? = some row → row[j]? = some y → ∃ u, news[i * es + j]? = some u ∧ RV ((cx w.heap st.hp β F).only (x.rowIds st.hp)) u y := by
  obtain ⟨base, m, c, e0, hm, hmc, hnil, hel⟩ := hr.sl hk ho
  have hlenrows : (x.rowsOf st.hp).length = m ∧ (∀ row ∈ x.rowsOf st.hp, row.length = es) ∧ ∀ (i : Nat) (row : List V), (x.rowsOf st.hp)[i]? = some row → ∀ ad, base = some ad → ∀ (j : Nat) (y : V), row[j]? = some y →
      ∃ u, look w.heap ad.block (ad.off + i * es + j) = some u ∧ ad.spot = none ∧ u.oneCell' = true ∧ RV ((cx w.heap st.hp β F).only (x.rowIds st.hp)) u y := by
    subst e0
    cases hr with
    | own hl h =>
      rename_i id es' off len tot
      obtain ⟨h1, h2⟩ := ho
      obtain ⟨fz, refs, rows, hid, hgd⟩ := mem_get' h1
      have he : es' = es := he
      subst he
      simp only [V.rowsOf, V.rowIds]
      rw [hgd] at h2 ⊢
      simp only [O.rows, O.refs] at h2 ⊢
      simp only [V.slLen] at hm
      obtain ⟨g1, g2⟩ := h ((β id).wt rows.length) (by show hdOf st.hp β id = _; simp [hdOf, hid])
      obtain ⟨g3, g4, g5⟩ := g2 h2
      have g3' : (β id).lo ≤ off := g3
      have g4' : (β id).es = es' := g4
      rcases g5 with ⟨g6, ⟨ad, g7⟩, g8⟩ | ⟨g6, ad, g7, g8, g9⟩
      · injection g7 with a1 a2 a3
        have : m = 0 := by omega
        subst this
        obtain rfl : len = 0 := by omega
        exact ⟨by simp, by simp, fun i row hi => by simp at hi⟩
      · injection g7 with a1 a2 a3
        have g6' : (β id).nil = false := g6
        have g8' : off + len ≤ rows.length := g8
        obtain rfl : len = m := by omega
        rcases hk.ro id _ hid with hro | ⟨q1, q2, q3, q4, q5, cs, E, fr, q6, q7, q8, q9⟩
        · rw [hro.1] at g6'; cases g6'
        have hget : ∀ (i : Nat) (row : List V), ((rows.drop off).take len)[i]? = some row → rows[off + i]? = some row ∧ i < len := by
          intro i row h
          rw [List.getElem?_take] at h
          split at h
          · rw [List.getElem?_drop] at h; exact ⟨h, by assumption⟩
          · cases h
        refine ⟨by simp; omega, fun row hrow => ?_, fun i row hi ad' hb j y hj => ?_⟩
        · obtain ⟨i, hi⟩ := List.getElem?_of_mem hrow
          rw [← g4']; exact q4 _ _ (hget i row hi).1
        · subst hb
          injection a1 with a1
          subst a1
          obtain ⟨hi1, hi2⟩ := hget i row hi
          obtain ⟨u, e1, e2, e3⟩ := q9 _ _ hi1 (by omega) j y hj
          have g9' : ad' = ⟨(β id).b, (β id).o + (off - (β id).lo) * (β id).es, none⟩ := g9 (by show off - (β id).lo < (β id).cap; omega)
          refine ⟨u, ?_, by rw [g9'], e2, e3⟩
          rw [g9']
          unfold look
          have q6' : w.heap[(β id).b]? = some (.cells cs E fr) := q6
          simp only
          rw [q6']
          rw [g4', show off + i - (β id).lo = (off - (β id).lo) + i from by omega, Nat.add_mul, ← Nat.add_assoc] at e1
          rw [g4']
          exact e1
    | nilv =>
      simp only [V.slLen, List.length_nil] at hm
      exact ⟨by simp [V.rowsOf], by simp [V.rowsOf], fun i row hi => by simp [V.rowsOf] at hi⟩
    | view g hb hcap hlen hg hrr =>
      rename_i es' rows ad
      have he : es' = es := he
      subst he
      refine ⟨rfl, fun row hrow => ?_, fun i row hi ad' hb' j y hj => ?_⟩
      · obtain ⟨i, hi⟩ := List.getElem?_of_mem hrow
        exact hlen i row hi
      · injection hb' with hb'
        subst hb'
        obtain ⟨q1, q2, q3⟩ := hb (by rintro rfl; simp [V.rowsOf] at hi)
        exact ⟨_, (hg i row hi j y hj).1, q3, (hg i row hi j y hj).2, hrr i row hi j y hj⟩
    | a =>
      have hm0 : m = 0 := by simp only [V.slLen] at hm; omega
      subst hm0
      exact ⟨rfl, by simp [V.rowsOf], fun i row hi => by simp [V.rowsOf] at hi⟩
    | nul =>
      simp only [V.slLen] at hm
      exact ⟨by simp [V.rowsOf], by simp [V.rowsOf], fun i row hi => by simp [V.rowsOf] at hi⟩
    | any => exact ho.elim
    | ptr => exact ho.elim
    | mp => exact ho.elim
  obtain ⟨hl1, hl2, hl3⟩ := hlenrows
  subst e0
  cases hbase : base with
  | none =>
    have hm0 : m = 0 := by
      rcases Nat.eq_zero_or_pos m with h | h
      · exact h
      · obtain ⟨ad, h1, _⟩ := hel es he 0 h
        rw [hbase] at h1; cases h1
    subst hm0
    have hr0 : x.rowsOf st.hp = [] := List.length_eq_zero_iff.1 hl1
    refine ⟨_, _, _, #[], rfl, hm, hmc, hl1, hl2, by simp [Builtin.firstCells], by simp, fun k u h => by simp at h, fun i row j y hi => by rw [hr0] at hi; simp at hi⟩
  | some ad =>
    by_cases hm0 : m * es = 0
    · refine ⟨_, _, _, #[], rfl, hm, hmc, hl1, hl2, by simp [Builtin.firstCells, loadCells, hm0, loadCellsFrom], by simp [hm0], fun k u h => by simp at h, fun i row j y hi hj => ?_⟩
      have h1 : i < m := by rw [← hl1]; exact lt_of_get hi
      have h2 : j < es := by rw [← hl2 row (List.mem_of_getElem? hi)]; exact lt_of_get hj
      rcases Nat.mul_eq_zero.1 hm0 with h | h <;> omega
    · have hpos : 0 < m ∧ 0 < es := by
        constructor
        · exact Nat.pos_of_ne_zero fun h => hm0 (by simp [h])
        · exact Nat.pos_of_ne_zero fun h => hm0 (by simp [h])
      have hspot : ad.spot = none := by
        have hi : (x.rowsOf st.hp)[0]? = some ((x.rowsOf st.hp).getD 0 []) := get_of_getD (by omega)
        have hj : ((x.rowsOf st.hp).getD 0 [])[0]? = some (((x.rowsOf st.hp).getD 0 []).getD 0 .any) := get_of_getD (by rw [hl2 _ (List.mem_of_getElem? hi)]; exact hpos.2)
        obtain ⟨u, _, h, _⟩ := hl3 0 _ hi ad hbase 0 _ hj
        exact h
      have had : ad = ⟨ad.block, ad.off, none⟩ := by rw [← hspot]
      -- all cells, in their order
      have hflat : ∀ (k : Nat) (y : V), (x.rowsOf st.hp).flatten[k]? = some y → ∃ u, look w.heap ad.block (ad.off + 0 + k) = some u ∧ u.oneCell' = true ∧ RV ((cx w.heap st.hp β F).only (x.rowIds st.hp)) u y := by
        intro k y hk'
        have key : ∀ (rows : List (List V)) (n k : Nat) (y : V), (∀ row ∈ rows, row.length = es) → rows.flatten[k]? = some y → ∃ i row, rows[i]? = some row ∧ row[k - i * es]? = some y ∧ i * es ≤ k := by
          intro rows
          induction rows with
          | nil => intro n k y _ h; simp at h
          | cons r rows ih =>
            intro n k y hr' h
            rw [List.flatten_cons, List.getElem?_append, hr' r (by simp)] at h
            split at h
            · exact ⟨0, r, rfl, by simpa using h, by omega⟩
            · obtain ⟨i, row, h1, h2, h3⟩ := ih n _ y (fun q hq => hr' q (by simp [hq])) h
              refine ⟨i + 1, row, h1, ?_, ?_⟩
              · rw [Nat.add_mul, ← h2]; congr 1; omega
              · rw [Nat.add_mul]; omega
        obtain ⟨i, row, h1, h2, h3⟩ := key _ 0 k y hl2 hk'
        obtain ⟨u, e1, _, e2, e3⟩ := hl3 i row h1 ad hbase _ y h2
        exact ⟨u, by rw [← e1]; congr 1; omega, e2, e3⟩
      have hfl : (x.rowsOf st.hp).flatten.length = m * es := by
        have key : ∀ (rows : List (List V)), (∀ row ∈ rows, row.length = es) → rows.flatten.length = rows.length * es := by
          intro rows
          induction rows with
          | nil => intro _; simp
          | cons r rows ih => intro hr'; rw [List.flatten_cons, List.length_append, ih fun q hq => hr' q (by simp [hq]), hr' r (by simp), List.length_cons, Nat.add_mul]; omega
        rw [key _ hl2, hl1]
      obtain ⟨vs, r1, r2, r3, r4⟩ := run_loadCellsFrom (P := P) (w := w) (b := ad.block) (o := ad.off) (c := (cx w.heap st.hp β F).only (x.rowIds st.hp)) (x.rowsOf st.hp).flatten (m * es) 0 #[] (by omega) hflat
      refine ⟨_, _, _, vs, rfl, hm, hmc, hl1, hl2, ?_, r2, r3, fun i row j y hi hj => ?_⟩
      · simp only [Builtin.firstCells, loadCells]
        rw [had, r1]; simp
      · have h1 : i < m := by rw [← hl1]; exact lt_of_get hi
        have h2 : j < es := by rw [← hl2 row (List.mem_of_getElem? hi)]; exact lt_of_get hj
        have hlt : i * es + j < vs.size := by
          rw [r2]
          have : (i + 1) * es ≤ m * es := Nat.mul_le_mul_right _ h1
          rw [Nat.add_mul] at this; omega
        have hu := Array.getElem?_eq_getElem hlt
        refine ⟨_, hu, r4 _ _ y hu ?_⟩
        have key : ∀ (rows : List (List V)) (i : Nat), (∀ row ∈ rows, row.length = es) → rows[i]? = some row → rows.flatten[i * es + j]? = some y := by
          intro rows
          induction rows with
          | nil => intro i _ h; simp at h
          | cons r rows ih =>
            intro i hr' h
            rw [List.flatten_cons, List.getElem?_append, hr' r (by simp)]
            cases i with
            | zero => simp at h; subst h; rw [if_pos (by omega)]; simpa using hj
            | succ i =>
              rw [if_neg (by rw [Nat.add_mul]; omega)]
              rw [show (i + 1) * es + j - es = i * es + j from by rw [Nat.add_mul]; omega]
              exact ih i (fun q hq => hr' q (by simp [hq])) h
        exact key _ i hl2 hi

end
end Go.Abs

/- append: the machine does so. -/
namespace Go.Abs
set_option linter.unusedVariables false

theorem run_append_room {P : Program} {w w' : World} {t t2 ty e e2 : TypeId} {i : TypeInfo} {base xb : Option Addr} {sLen sCap m c : Nat} {news : Array Value}
    (ht : P.underlying t = some (.slice e)) (ht2 : P.underlying t2 = some (.slice e2)) (hi : P.info? e = some i) (hf : (Builtin.firstCells i.size m (.slice xb m c)).run P w = .ok news w)
    (hroom : sLen + m ≤ sCap) (hst : (match base with | some a => storeCells (a.add (sLen * i.size)) news.toList | none => pure () : Sem Unit).run P w = .ok () w') :
    (Builtin.append_ #[t, t2] ty #[.slice base sLen sCap, .slice xb m c]).run P w = .ok (.slice base (sLen + m) sCap) w' := by
  cases base with
  | none =>
    simp only [Sem.run_pure, Result.ok.injEq, true_and] at hst
    subst hst
    simp [Builtin.append_, run_underlying' ht, run_underlying' ht2, run_sizeOf' hi, Builtin.lenOf, hroom, hf]
  | some a =>
    simp only at hst
    simp [Builtin.append_, run_underlying' ht, run_underlying' ht2, run_sizeOf' hi, Builtin.lenOf, hroom, hf, hst]

theorem zeroCells_size {z : Array Value} {n : Nat} : (Builtin.zeroCells z n).size = n * z.size := by simp [Builtin.zeroCells]

theorem run_append_grow {P : Program} {w : World} {t t2 ty e e2 : TypeId} {i : TypeInfo} {z : Value} {base xb : Option Addr} {sLen sCap m c : Nat} {news olds : Array Value}
    (ht : P.underlying t = some (.slice e)) (ht2 : P.underlying t2 = some (.slice e2)) (hi : P.info? e = some i) (hz : i.zero = some z) (hb : 0 < i.bytes)
    (ho : (Builtin.firstCells i.size sLen (.slice base sLen sCap)).run P { w with drawn := w.drawn + 1 } = .ok olds { w with drawn := w.drawn + 1 })
    (hf : (Builtin.firstCells i.size m (.slice xb m c)).run P { w with drawn := w.drawn + 1 } = .ok news { w with drawn := w.drawn + 1 })
    (hroom : sCap < sLen + m) (hbytes : (sLen + m) * i.bytes ≤ 140737488355328) :
    ∃ newCap, sLen + m ≤ newCap ∧ (Builtin.append_ #[t, t2] ty #[.slice base sLen sCap, .slice xb m c]).run P w =
      .ok (.slice (some ⟨w.heap.size, 0, none⟩) (sLen + m) newCap) { w with drawn := w.drawn + 1, heap := w.heap.push (.cells (olds ++ news ++ Builtin.zeroCells z.cells (newCap - (sLen + m))) e) } := by
  have hfit := growslice_fits hroom hbytes
  have hq : (Question.appendCap (sLen + m) sCap e).forced = false := rfl
  have h63 : sLen + m < 2 ^ 63 := by
    have : sLen + m ≤ (sLen + m) * i.bytes := Nat.le_mul_of_pos_right _ hb
    omega
  refine ⟨(Question.appendCap (sLen + m) sCap e).cut (w.tape w.drawn (Question.appendCap (sLen + m) sCap e)), ?_, ?_⟩
  · simp only [Question.cut]; omega
  · simp only [Builtin.append_]
    simp only [List.size_toArray, List.length_cons, List.length_nil, Nat.zero_add, Nat.reduceAdd, Nat.lt_add_one, Nat.zero_lt_succ, getElem?_pos, List.getElem_toArray, List.getElem_cons_zero, List.getElem_cons_succ, Sem.run_bind, run_underlying' ht, run_underlying' ht2, Result.andThen_ok, run_sizeOf' hi, Builtin.lenOf, Sem.run_pure, Bool.false_eq_true, if_false, run_typeInfo' hi]
    rw [if_neg (by omega)]
    simp only [Sem.run_bind, run_typeInfo' hi, Result.andThen_ok, Sem.run_pure, Sem.run_ite, false_or, show ¬ i.bytes = 0 from by omega, and_false, if_false]
    rw [if_neg (show ¬ (Builtin.nextslicecap (sLen + m) sCap * i.bytes > 2 ^ 48) from by omega)]
    simp only [Sem.run_bind, run_choose, hq, Bool.false_eq_true, if_false, Result.andThen_ok, run_typeInfo' hi, run_askRoom, ho, hf, run_zeroValue' hi hz, newRow, run_newObj, Sem.run_pure, Bool.not_false, if_true]

/-- A new row of cells, with room behind. -/
theorem new_cap {w : World} {H : Heap} {β : Nat → Hd} {F : Nat → Prop} {id es cap n : Nat} {refs : List Nat} {rows : List (List V)} {cs : Array Value} {E : TypeId} (hk : HOK w.heap H β F)
    (hid : H[id]? = some .res) (hcap : rows.length ≤ cap) (hsz : cap * es ≤ cs.size) (hrow : ∀ (i : Nat) (row : List V), rows[i]? = some row → row.length = es)
    (hc : ∀ (i : Nat) (row : List V) (j : Nat) (x : V), rows[i]? = some row → row[j]? = some x → ∃ v, cs[i * es + j]? = some v ∧ v.oneCell' = true ∧ RV ((cx w.heap H β F).only refs) v x) :
    Adv F w H β { w with drawn := n, heap := w.heap.push (.cells cs E) } (H.set id (.mem false refs rows)) (upd β id ⟨w.heap.size, 0, cap, es, 0, false, 0, noSub⟩) := by
  have hnob : ∀ b, ¬ ownsB H β id b := fun b e => by unfold ownsB at e; rw [hid] at e; exact e
  obtain ⟨h1, h2, h3⟩ := hk.turn (hp' := w.heap.push (.cells cs E)) (o' := .mem false refs rows) (h' := ⟨w.heap.size, 0, cap, es, 0, false, 0, noSub⟩) hid (by simp)
    (fun b hb _ => by rw [Array.getElem?_push_lt hb]; exact (Array.getElem?_eq_getElem hb).symm)
    (fun b hb => by
      unfold ownsB at hb
      rw [get_set hid] at hb
      obtain ⟨_, hb⟩ := hb
      rw [upd_same] at hb
      exact .inr (by simp at hb; omega))
    (by simp) (fun g' _ e => by simp at e)
    (fun hle => by
      refine .inr ⟨rfl, by simp, by simpa using hcap, hrow, by simp, cs, E, (0, 0), ?_, by simp, by simpa using hsz, fun i row hi _ j x hj => ?_⟩
      · show (w.heap.push (.cells cs E))[w.heap.size]? = _
        simp
      · obtain ⟨v, e1, e2, e3⟩ := hc i row j x hi hj
        exact ⟨v, by simpa using e1, e2, e3.mono (hle.only refs)⟩)
  exact ⟨h1, h2, ⟨rfl, rfl, rfl, by simp, fun b hb _ => by
    show (w.heap.push (.cells cs E))[b]? = _
    rw [Array.getElem?_push_lt hb]; exact (Array.getElem?_eq_getElem hb).symm⟩⟩

/-- A row that is nothing yet. -/
theorem new_nil {w : World} {H : Heap} {β : Nat → Hd} {F : Nat → Prop} {id es : Nat} {refs : List Nat} (hk : HOK w.heap H β F) (hid : H[id]? = some .res) :
    Adv F w H β w (H.set id (.mem false refs [])) (upd β id ⟨0, 0, 0, es, 0, true, 0, noSub⟩) := by
  have hnob : ∀ b, ¬ ownsB H β id b := fun b e => by unfold ownsB at e; rw [hid] at e; exact e
  obtain ⟨h1, h2, h3⟩ := hk.turn (hp' := w.heap) (o' := .mem false refs []) (h' := ⟨0, 0, 0, es, 0, true, 0, noSub⟩) hid (Nat.le_refl _) (fun _ _ _ => rfl)
    (fun b hb => by
      unfold ownsB at hb
      rw [get_set hid] at hb
      obtain ⟨hb, _⟩ := hb
      rw [upd_same] at hb
      cases hb)
    (by simp) (fun g' _ e => by simp at e) (fun hle => .inl ⟨rfl, rfl, rfl⟩)
  exact ⟨h1, h2, .refl _ _⟩

theorem nil_own {H : Heap} {id es : Nat} {refs : List Nat} {ad : Option Addr} (hid : H[id]? = some .res) {hp : Array Obj} {F : Nat → Prop} {β : Nat → Hd} :
    RV (cx hp (H.set id (.mem false refs [])) (upd β id ⟨0, 0, 0, es, 0, true, 0, noSub⟩) F) (.slice ad 0 0) (.own id es 0 0 0) := by
  refine .own ⟨_, get_set hid, by simp⟩ fun h e => ?_
  have e1 : hdOf (H.set id (.mem false refs [])) (upd β id ⟨0, 0, 0, es, 0, true, 0, noSub⟩) id = some ((upd β id ⟨0, 0, 0, es, 0, true, 0, noSub⟩ id).wt 0) := by
    unfold hdOf; rw [get_set hid]; rfl
  have e2 : some h = some ((upd β id ⟨0, 0, 0, es, 0, true, 0, noSub⟩ id).wt 0) := e.symm.trans e1
  injection e2 with e2
  subst e2
  rw [upd_same]
  exact ⟨Nat.le_refl _, fun _ => ⟨Nat.le_refl _, rfl, .inl ⟨rfl, ⟨_, rfl⟩, rfl⟩⟩⟩

theorem cap_own {H : Heap} {id es n cap : Nat} {refs : List Nat} {rows : List (List V)} {b : Nat} (hid : H[id]? = some .res) {hp : Array Obj} {F : Nat → Prop} {β : Nat → Hd} (hn : rows.length = n) :
    RV (cx hp (H.set id (.mem false refs rows)) (upd β id ⟨b, 0, cap, es, 0, false, 0, noSub⟩) F) (.slice (some ⟨b, 0, none⟩) n cap) (.own id es 0 n n) := by
  refine .own ⟨_, get_set hid, by simp⟩ fun h e => ?_
  have e1 : hdOf (H.set id (.mem false refs rows)) (upd β id ⟨b, 0, cap, es, 0, false, 0, noSub⟩) id = some ((upd β id ⟨b, 0, cap, es, 0, false, 0, noSub⟩ id).wt rows.length) := by
    unfold hdOf; rw [get_set hid]
  have e2 : some h = some ((upd β id ⟨b, 0, cap, es, 0, false, 0, noSub⟩ id).wt rows.length) := e.symm.trans e1
  injection e2 with e2
  subst e2
  rw [upd_same]
  exact ⟨by show n ≤ rows.length; omega, fun _ => ⟨Nat.zero_le _, rfl, .inr ⟨rfl, _, rfl, by show 0 + n ≤ rows.length; omega, fun _ => by simp [Hd.wt]⟩⟩⟩

end Go.Abs

/- append to what is owned. -/
namespace Go.Abs
set_option linter.unusedVariables false

section
variable {P : Program} {w : World} {H : Heap} {β : Nat → Hd} {F : Nat → Prop} {id : Nat} {refs refs' : List Nat} {rows ys : List (List V)}

theorem hdOf_new {β' : Nat → Hd} {h' : Hd} {rows' : List (List V)} (hid : H[id]? = some (.mem false refs rows)) :
    hdOf (H.set id (.mem false refs' rows')) (upd β id h') id = some (h'.wt rows'.length) := by
  unfold hdOf; rw [get_set hid, upd_same]

/-- Nothing is laid on: more may be named. -/
theorem app_same (hk : HOK w.heap H β F) (hid : H[id]? = some (.mem false refs rows)) (hs : ∀ i ∈ refs, i ∈ refs') : Adv F w H β w (H.set id (.mem false refs' rows)) β := by
  have hupd : upd β id (β id) = β := by funext k; unfold upd; split <;> simp_all
  obtain ⟨h1, h2, h3⟩ := hk.turn (hp' := w.heap) (o' := .mem false refs' rows) (h' := β id) hid (Nat.le_refl _) (fun _ _ _ => rfl)
    (fun b hb => by unfold ownsB at hb ⊢; rw [get_set hid, upd_same] at hb; rw [hid]; exact .inl hb)
    (by simp) (fun g' hg _ => by
      left; unfold hdOf at hg ⊢; rw [get_set hid, upd_same] at hg; rw [hid]; exact hg)
    (fun hle => by
      rcases hk.ro id _ hid with hr | ⟨q1, q2, q3, q4, q5, cs, E, fr, q6, q7, q8, q9⟩
      · exact .inl hr
      · refine .inr ⟨q1, q2, q3, q4, by simp, cs, E, fr, q6, q7, q8, fun i row hi hlo j x hj => ?_⟩
        obtain ⟨v, e1, e2, e3⟩ := q9 i row hi hlo j x hj
        exact ⟨v, e1, e2, (e3.mono (Cx.only_mono hs)).mono (hle.only _)⟩)
  rw [hupd] at h1 h2
  exact ⟨h1, h2, .refl _ _⟩

/-- Laid on in place. -/
theorem app_room {es n : Nat} {vs : List Value} (hk : HOK w.heap H β F) (hid : H[id]? = some (.mem false refs rows)) (hs : ∀ i ∈ refs, i ∈ refs') (hnil : (β id).nil = false) (hes : (β id).es = es)
    (hn : ys.length = n) (hpos : 0 < n) (hys : ∀ row ∈ ys, row.length = es) (hroom : rows.length - (β id).lo + n ≤ (β id).cap) (hvs : vs.length = n * es) (hone : ∀ v ∈ vs, v.oneCell' = true)
    (hr : ∀ (i : Nat) (row : List V) (j : Nat) (y : V), ys[i]? = some row → row[j]? = some y → ∃ u, vs[i * es + j]? = some u ∧ RV ((cx w.heap H β F).only refs') u y) :
    ∃ w', (storeCells ⟨(β id).b, (β id).o + (rows.length - (β id).lo) * es, none⟩ vs).run P w = .ok () w' ∧ Adv F w H β w' (H.set id (.mem false refs' (rows ++ ys))) β := by
  rcases hk.ro id _ hid with hro | ⟨q1, q2, q3, q4, q5, cs, E, fr, q6, q7, q8, q9⟩
  · rw [hro.1] at hnil; cases hnil
  obtain rfl := q7 rfl
  subst hes
  have hoff : (β id).o + (rows.length - (β id).lo) * (β id).es + vs.length ≤ cs.size := by
    have h2 : (rows.length - (β id).lo + n) * (β id).es ≤ (β id).cap * (β id).es := Nat.mul_le_mul_right _ hroom
    rw [Nat.add_mul] at h2
    omega
  have hbs : (β id).b < w.heap.size := hp_lt q6
  have hown : ∀ b, ownsB H β id b ↔ (β id).b = b := fun b => by unfold ownsB; rw [hid]; simp [q1]
  have hupd : upd β id (β id) = β := by funext k; unfold upd; split <;> simp_all
  refine ⟨_, run_storeCells (P := P) vs w cs 0 q6 (by simpa using hoff) hone, ?_⟩
  obtain ⟨h1, h2, h3⟩ := hk.turn (hp' := w.heap.setIfInBounds (β id).b (.cells (setFrom cs ((β id).o + (rows.length - (β id).lo) * (β id).es + 0) vs) E (0, 0)))
    (o' := .mem false refs' (rows ++ ys)) (h' := β id) hid (by simp)
    (fun b hb hn' => by rw [Array.getElem?_setIfInBounds, if_neg fun e => hn' ((hown b).2 e)])
    (fun b hb => by
      unfold ownsB at hb
      rw [get_set hid, upd_same] at hb
      exact .inl ((hown b).2 hb.2))
    (by simp) (fun g' hg _ => by
      right
      rw [hdOf_new (β' := β) hid] at hg
      injection hg with hg
      subst hg
      exact ⟨(β id).wt rows.length, by simp [hdOf, hid], by simp [Hd.wt]; omega⟩)
    (fun hle => by
      refine .inr ⟨q1, by simp; omega, by simp; omega, fun k r hk' => ?_, by simp, setFrom cs ((β id).o + (rows.length - (β id).lo) * (β id).es + 0) vs, E, (0, 0), ?_, by simp, by rw [setFrom_size]; exact q8, fun k r hk' hlok m x hm => ?_⟩
      · rw [List.getElem?_append] at hk'
        split at hk'
        · exact q4 k r hk'
        · exact hys r (List.mem_of_getElem? hk')
      · show (w.heap.setIfInBounds _ _)[(β id).b]? = _
        rw [Array.getElem?_setIfInBounds, if_pos rfl, if_pos hbs]
      · rw [setFrom_get _ _ _ _ (by simpa using hoff), Nat.add_zero]
        rw [List.getElem?_append] at hk'
        split at hk'
        · next hlt =>
          have hml : m < (β id).es := by rw [← q4 k r hk']; exact lt_of_get hm
          have h2 : (k - (β id).lo + 1) * (β id).es ≤ (rows.length - (β id).lo) * (β id).es := Nat.mul_le_mul_right _ (by omega)
          rw [Nat.add_mul] at h2
          rw [if_neg (by omega)]
          obtain ⟨v, e1, e2, e3⟩ := q9 k r hk' hlok m x hm
          exact ⟨v, e1, e2, (e3.mono (Cx.only_mono hs)).mono (hle.only _)⟩
        · next hge =>
          have hml : m < (β id).es := by rw [← hys r (List.mem_of_getElem? hk')]; exact lt_of_get hm
          have hkn : k - rows.length < n := by rw [← hn]; exact lt_of_get hk'
          have h2 : (k - rows.length + 1) * (β id).es ≤ n * (β id).es := Nat.mul_le_mul_right _ hkn
          rw [Nat.add_mul] at h2
          have e0 : (k - (β id).lo) * (β id).es = (rows.length - (β id).lo) * (β id).es + (k - rows.length) * (β id).es := by rw [← Nat.add_mul]; congr 1; omega
          rw [if_pos (by omega)]
          obtain ⟨u, hu, ru⟩ := hr _ r m x hk' hm
          refine ⟨u, ?_, hone u (List.mem_of_getElem? hu), ru.mono (hle.only _)⟩
          rw [← hu]; congr 1; omega)
  rw [hupd] at h1 h2
  exact ⟨h1, h2, ⟨rfl, rfl, rfl, by simp, fun b hb hn => by
    show (w.heap.setIfInBounds _ _)[b]? = _
    rw [Array.getElem?_setIfInBounds, if_neg fun e => hn ⟨id, (hown b).2 e⟩]⟩⟩

/-- Laid on in a new row. -/
theorem app_grow {es n k off cap : Nat} {olds news rest : Array Value} {E : TypeId} (hk : HOK w.heap H β F) (hid : H[id]? = some (.mem false refs rows)) (hs : ∀ i ∈ refs, i ∈ refs')
    (hoff : off ≤ rows.length) (hrows : ∀ (i : Nat) (row : List V), rows[i]? = some row → row.length = es) (hn : ys.length = n) (hpos : 0 < n) (hys : ∀ row ∈ ys, row.length = es) (hcap : rows.length - off + n ≤ cap)
    (hos : olds.size = (rows.length - off) * es) (hns : news.size = n * es) (hrs : rest.size = (cap - (rows.length - off + n)) * es)
    (hone : ∀ (i : Nat) (v : Value), olds[i]? = some v → v.oneCell' = true) (hone' : ∀ (i : Nat) (v : Value), news[i]? = some v → v.oneCell' = true)
    (ho : ∀ (i : Nat) (row : List V) (j : Nat) (y : V), (rows.drop off)[i]? = some row → row[j]? = some y → ∃ u, olds[i * es + j]? = some u ∧ RV ((cx w.heap H β F).only refs) u y)
    (hr : ∀ (i : Nat) (row : List V) (j : Nat) (y : V), ys[i]? = some row → row[j]? = some y → ∃ u, news[i * es + j]? = some u ∧ RV ((cx w.heap H β F).only refs') u y) :
    Adv F w H β { w with drawn := k, heap := w.heap.push (.cells (olds ++ news ++ rest) E) } (H.set id (.mem false refs' (rows ++ ys))) (upd β id ⟨w.heap.size, 0, cap, es, off, false, 0, noSub⟩) := by
  have hnew : ∀ b, ownsB (H.set id (.mem false refs' (rows ++ ys))) (upd β id ⟨w.heap.size, 0, cap, es, off, false, 0, noSub⟩) id b → w.heap.size ≤ b := by
    intro b hb
    unfold ownsB at hb
    rw [get_set hid] at hb
    obtain ⟨_, hb⟩ := hb
    rw [upd_same] at hb
    simp at hb; omega
  obtain ⟨h1, h2, h3⟩ := hk.turn (hp' := w.heap.push (.cells (olds ++ news ++ rest) E)) (o' := .mem false refs' (rows ++ ys)) (h' := ⟨w.heap.size, 0, cap, es, off, false, 0, noSub⟩) hid (by simp)
    (fun b hb _ => by rw [Array.getElem?_push_lt hb]; exact (Array.getElem?_eq_getElem hb).symm)
    (fun b hb => .inr (hnew b hb))
    (by simp) (fun g' hg _ => by
      right
      rw [hdOf_new (β' := β) hid] at hg
      injection hg with hg
      subst hg
      exact ⟨(β id).wt rows.length, by simp [hdOf, hid], by simp [Hd.wt]; omega⟩)
    (fun hle => by
      refine .inr ⟨rfl, by simp; omega, by simp; omega, fun i row hi => ?_, by simp, olds ++ news ++ rest, E, (0, 0), ?_, by simp, ?_, fun i row hi hlo j x hj => ?_⟩
      · rw [List.getElem?_append] at hi
        split at hi
        · exact hrows i row hi
        · exact hys row (List.mem_of_getElem? hi)
      · show (w.heap.push _)[w.heap.size]? = _
        simp
      · simp only [Array.size_append, hos, hns, hrs, Nat.zero_add, ← Nat.add_mul]
        exact Nat.mul_le_mul_right _ (by omega)
      · simp only [Nat.zero_add] at *
        rw [List.getElem?_append] at hi
        split at hi
        · next hlt =>
          have hi' : (rows.drop off)[i - off]? = some row := by rw [List.getElem?_drop, ← hi]; congr 1; omega
          obtain ⟨u, e1, e2⟩ := ho _ row j x hi' hj
          refine ⟨u, ?_, hone _ u e1, (e2.mono (Cx.only_mono hs)).mono (hle.only _)⟩
          have hl := (Array.getElem?_eq_some_iff.1 e1).1
          rw [Array.append_assoc, Array.getElem?_append, if_pos hl, e1]
        · next hge =>
          obtain ⟨u, e1, e2⟩ := hr _ row j x hi hj
          refine ⟨u, ?_, hone' _ u e1, e2.mono (hle.only _)⟩
          have hl := (Array.getElem?_eq_some_iff.1 e1).1
          have e0 : (i - off) * es = (rows.length - off) * es + (i - rows.length) * es := by rw [← Nat.add_mul]; congr 1; omega
          rw [Array.append_assoc, Array.getElem?_append, if_neg (by omega), Array.getElem?_append, if_pos (by omega), ← e1]
          congr 1; omega)
  exact ⟨h1, h2, ⟨rfl, rfl, rfl, by simp, fun b hb _ => by
    show (w.heap.push (.cells _ E))[b]? = _
    rw [Array.getElem?_push_lt hb]; exact (Array.getElem?_eq_getElem hb).symm⟩⟩

end
end Go.Abs

/- append, calls: the machine does so. -/
namespace Go.Abs
set_option linter.unusedVariables false

theorem upd_self (β : Nat → Hd) (id : Nat) : upd β id (β id) = β := by
  funext k; unfold upd; split
  · next h => rw [h]
  · rfl

theorem le_of_cast (n : Nat) (h : (n : Int) ≤ 140737488355328) : n ≤ 140737488355328 := by omega

section
variable {P : Program} {w : World} {β : Nat → Hd} {F : Nat → Prop} {N : Nat} {st : St} {a : Act}

theorem app_exec {o : Oper} {x y : Operand} {t t2 : TypeId} {ats : Array TypeId} {args : Array Operand} (ho : o.op = .call { callee := .builtin .append, args := args, argTypes := ats }) :
    execOp a.eval o = (do pure (Next.value (← Builtin.append_ ats o.type (args.map a.eval)))) := by
  obtain ⟨dst, op, ty, pos, af, gu⟩ := o
  simp only at ho
  subst ho
  rfl

theorem append_args {P : Program} {w : World} {ats : Array TypeId} {ty t t2 e e2 : TypeId} {vs : Array Value} {s x : Value} (h1 : ats[0]? = some t) (h2 : ats[1]? = some t2) (h3 : vs[0]? = some s) (h4 : vs[1]? = some x) :
    Builtin.append_ ats ty vs = Builtin.append_ #[t, t2] ty #[s, x] := by
  unfold Builtin.append_
  simp only [h1, h2, h3, h4]
  rfl

theorem sound_app {o : Oper} {r : Nat} {ap : List Nat} {args : Array Operand} {ats : Array TypeId} {x y : Operand} {t t2 e e2 : TypeId} {i : TypeInfo} {z : Value} (hR : Rel w β F N st a)
    (ho : o.op = .call { callee := .builtin .append, args := args, argTypes := ats }) (h0 : ats[0]? = some t) (h1 : ats[1]? = some t2) (ha0 : args[0]? = some x) (ha1 : args[1]? = some y)
    (ht : P.underlying t = some (.slice e)) (ht2 : P.underlying t2 = some (.slice e2)) (hi : P.info? e = some i) (hz : i.zero = some z) (hzs : z.cells.size = i.size) (hsz : 0 < i.size) (hb : 0 < i.bytes)
    (hd : ∀ t, o.dst = some t → t < N) {k : St → Prop} (h : (I.app ap o.dst r i.size i.bytes x y).vc P k st) (Q : Exit → Act → World → Prop) :
    o.wp P a w (Then P F N w st β k) Q := by
  have hk := hR.hok
  have hex := app_exec (a := a) (x := x) (y := y) (t := t) (t2 := t2) ho
  have hargs := append_args (P := P) (w := w) (ty := o.type) (e := e) (e2 := e2) h0 h1 (vs := args.map a.eval) (s := a.eval x) (x := a.eval y) (by simp [ha0]) (by simp [ha1])
  rw [hargs] at hex
  simp only [I.vc] at h
  split at h
  · next id es' off len tot ex =>
    split at h
    · next refs rows hgd =>
      obtain ⟨_, rfl, rfl, p2, p3, p4, p5, p6⟩ := h
      have hid : st.hp[id]? = some (.mem false refs rows) := by
        cases hq : st.hp[id]? with
        | none => simp [List.getD, hq] at hgd
        | some o => rw [getD_some hq] at hgd; rw [hgd]
      obtain ⟨yb, m, c, news, ey, hm, hmc, y1, y2, y3, y4, y5, y6⟩ := run_firstCells (P := P) hk (hR.ev y) p3 p4
      have hsub : ∀ q ∈ refs, q ∈ addRefs refs ((st.ev y).rowIds st.hp) := fun q hq => addRefs_left _ _ hq
      have hyr : ∀ (i' : Nat) (row : List V) (j : Nat) (y' : V), ((st.ev y).rowsOf st.hp)[i']? = some row → row[j]? = some y' → ∃ u, news[i' * i.size + j]? = some u ∧ RV ((cx w.heap st.hp β F).only (addRefs refs ((st.ev y).rowIds st.hp))) u y' :=
        fun i' row j y' h1 h2 => by
          obtain ⟨u, e1, e2⟩ := y6 i' row j y' h1 h2
          exact ⟨u, e1, e2.mono (Cx.only_mono fun q hq => addRefs_right _ _ hq)⟩
      have hx := hR.ev x
      rw [ex] at hx
      have hxo : okSl st.hp (.own id i.size off len rows.length) := by
        show _ ∧ _
        rw [hgd]; exact ⟨rfl, rfl⟩
      obtain ⟨xb, xm, xc, olds, ex', hxm, hxmc, x1, x2, x3, x4, x5, x6⟩ := run_firstCells (P := P) hk hx hxo (es := i.size) rfl
      obtain rfl : xm = len := by simp [V.slLen] at hxm; omega
      have hx' := hx
      rw [ex'] at hx'
      cases hx' with
      | own hl hh =>
      obtain ⟨g1, g2⟩ := hh ((β id).wt rows.length) (by show hdOf st.hp β id = _; simp [hdOf, hid])
      obtain ⟨g3, g4, g5⟩ := g2 rfl
      have g3' : (β id).lo ≤ off := g3
      have g4' : (β id).es = i.size := g4
      have hml : m = ((st.ev y).rowsOf st.hp).length := y1.symm
      rcases Nat.eq_zero_or_pos m with hm0 | hmp
      · -- nothing is laid on
        subst hm0
        have hr0 : (st.ev y).rowsOf st.hp = [] := List.length_eq_zero_iff.1 y1
        rw [hr0] at p6
        simp only [List.append_nil, List.length_nil, Nat.add_zero] at p6
        have adv := app_same (refs' := addRefs refs ((st.ev y).rowIds st.hp)) hk hid hsub
        refine upon_value hex (v := a.eval x) (w' := w) ?_ ⟨β, _, ⟨by rw [put_hp]; exact adv, (hR.adv adv).put hd (hx.mono adv.le), by rw [put_hp]; simp⟩, p6⟩
        rw [ex', ey]
        have hns : news = #[] := Array.eq_empty_of_size_eq_zero (by simpa using y4)
        subst hns
        have := run_append_room (ty := o.type) (w' := w) (base := xb) ht ht2 hi (by rw [← ey]; exact y3) (show xm + 0 ≤ xc from hxmc) (by cases xb <;> simp [storeCells])
        exact this
      · by_cases hroom : xm + m ≤ xc
        · -- there is room
          rcases g5 with ⟨g6, ⟨ad, g7⟩, g8⟩ | ⟨g6, ad, g7, g8, g9⟩
          · injection g7 with a1 a2 a3; omega
          · injection g7 with a1 a2 a3
            have a3' : xc = (β id).cap - (off - (β id).lo) := a3
            have g9' : ad = ⟨(β id).b, (β id).o + (off - (β id).lo) * (β id).es, none⟩ := g9 (by show off - (β id).lo < (β id).cap; omega)
            obtain ⟨w', r1, adv⟩ := app_room (P := P) (refs' := addRefs refs ((st.ev y).rowIds st.hp)) (vs := news.toList) hk hid hsub g6 g4' y1 hmp y2 (by omega) (by simpa using y4)
              (fun u hu => by obtain ⟨q, hq⟩ := List.getElem?_of_mem hu; exact y5 q u (by simpa using hq)) (fun i' row j y' h1 h2 => by
                obtain ⟨u, e1, e2⟩ := hyr i' row j y' h1 h2
                exact ⟨u, by simpa using e1, e2⟩)
            have hst : (storeCells (ad.add (xm * i.size)) news.toList).run P w = .ok () w' := by
              rw [← r1, g9', addr_add, g4']
              congr 3
              rw [Nat.add_assoc, ← Nat.add_mul]
              congr 2
              omega
            refine upon_value hex (v := .slice xb (xm + m) xc) (w' := w') ?_ ⟨β, _, ⟨by rw [put_hp]; exact adv, (hR.adv adv).put hd ?_, by rw [put_hp]; simp⟩, p6⟩
            · rw [ex', ey]
              exact run_append_room (ty := o.type) ht ht2 hi (by rw [← ey]; exact y3) hroom (by rw [a1]; exact hst)
            · have hupd : upd β id (β id) = β := upd_self β id
              refine .own ⟨_, get_set hid, fun e => by cases e⟩ fun h0 e0 => ?_
              have e1 : hdOf (st.hp.set id (.mem false (addRefs refs ((st.ev y).rowIds st.hp)) (rows ++ (st.ev y).rowsOf st.hp))) β id = some ((β id).wt (rows ++ (st.ev y).rowsOf st.hp).length) := by
                have := hdOf_new (β' := β) (β := β) (h' := β id) (refs' := addRefs refs ((st.ev y).rowIds st.hp)) (rows' := rows ++ (st.ev y).rowsOf st.hp) hid
                rw [hupd] at this; exact this
              have e2 : some h0 = some ((β id).wt (rows ++ (st.ev y).rowsOf st.hp).length) := e0.symm.trans e1
              injection e2 with e2
              subst e2
              refine ⟨by show _ ≤ (rows ++ _).length; simp, fun _ => ⟨g3', g4', .inr ⟨g6, ad, ?_, ?_, g9⟩⟩⟩
              · rw [a1, a3', hml]; rfl
              · show off + (xm + _) ≤ (rows ++ _).length
                rw [List.length_append]; omega
        · -- a new row
          have hgrow : xc < xm + m := by omega
          have hR1 : Rel { w with drawn := w.drawn + 1 } β F N st a := ⟨hR.hok, hR.sl, hR.df, hR.sz⟩
          obtain ⟨yb', m', c', news', ey', hm', hmc', y1', y2', y3', y4', y5', y6'⟩ := run_firstCells (P := P) (w := { w with drawn := w.drawn + 1 }) hk (hR1.ev y) p3 p4
          rw [ey] at ey'
          injection ey' with b1 b2 b3
          subst b1 b2 b3
          obtain ⟨xb', xm', xc', olds', ex'', hxm', hxmc', x1', x2', x3', x4', x5', x6'⟩ := run_firstCells (P := P) (w := { w with drawn := w.drawn + 1 }) hk hx hxo (es := i.size) rfl
          rw [ex'] at ex''
          injection ex'' with b1 b2 b3
          subst b1 b2 b3
          have hbytes : (xm + m) * i.bytes ≤ 140737488355328 := by
            have : (((xm + m) * i.bytes : Nat) : Int) ≤ 140737488355328 := by
              rw [Int.natCast_mul, Int.natCast_add, hm]; exact p5
            exact le_of_cast _ this
          obtain ⟨newCap, hcap, hrun⟩ := run_append_grow (P := P) (ty := o.type) (w := w) ht ht2 hi hz hb (by rw [← ex']; exact x3') (by rw [← ey]; exact y3') hgrow hbytes
          have hrows : ∀ (i' : Nat) (row : List V), rows[i']? = some row → row.length = i.size := by
            rcases hk.ro id _ hid with hro | ⟨q1, q2, q3, q4, _⟩
            · intro i' row hi'; rw [hro.2.1] at hi'; simp at hi'
            · intro i' row hi'; rw [← g4']; exact q4 i' row hi'
          have hrO : (V.own id i.size off xm rows.length).rowsOf st.hp = rows.drop off := by
            show ((st.hp.getD id .dead).rows.drop off).take xm = _
            rw [hgd]
            show (rows.drop off).take xm = _
            rw [List.take_of_length_le (by simp; omega)]
          have adv := app_grow (off := off) (n := m) (cap := newCap) (k := w.drawn + 1) (refs' := addRefs refs ((st.ev y).rowIds st.hp)) (olds := olds') (news := news') (rest := Builtin.zeroCells z.cells (newCap - (xm + m))) (E := e)
            hk hid hsub (by omega) hrows y1 hmp y2 (by omega) (by rw [x4']; congr 1; omega) y4' (by rw [zeroCells_size, hzs]; congr 2; omega) x5' y5'
            (fun i' row j y' h1 h2 => by
              obtain ⟨u, e1, e2⟩ := x6' i' row j y' (by rw [hrO]; exact h1) h2
              refine ⟨u, e1, ?_⟩
              have : (V.own id i.size off xm rows.length).rowIds st.hp = refs := by show (st.hp.getD id .dead).refs = _; rw [hgd]; rfl
              rw [this] at e2
              exact e2)
            (fun i' row j y' h1 h2 => by
              obtain ⟨u, e1, e2⟩ := y6' i' row j y' h1 h2
              exact ⟨u, e1, e2.mono (Cx.only_mono fun q hq => addRefs_right _ _ hq)⟩)
          refine upon_value hex (by rw [ex', ey]; exact hrun) ⟨_, _, ⟨by rw [put_hp]; exact adv, (hR.adv adv).put hd ?_, by rw [put_hp]; simp⟩, p6⟩
          refine .own ⟨_, get_set hid, fun e => by cases e⟩ fun h0 e0 => ?_
          have e1 := hdOf_new (β' := β) (β := β) (h' := ⟨w.heap.size, 0, newCap, i.size, off, false, 0, noSub⟩) (refs' := addRefs refs ((st.ev y).rowIds st.hp)) (rows' := rows ++ (st.ev y).rowsOf st.hp) hid
          have e2 := e0.symm.trans e1
          injection e2 with e2
          subst e2
          refine ⟨by show _ ≤ (rows ++ _).length; simp, fun _ => ⟨Nat.le_refl _, rfl, .inr ⟨rfl, ⟨w.heap.size, 0, none⟩, ?_, ?_, fun _ => ?_⟩⟩⟩
          · rw [hml]; simp [Hd.wt]
          · show off + (xm + _) ≤ (rows ++ _).length
            rw [List.length_append]; omega
          · simp [Hd.wt]
    · exact h.elim
  · next ex =>
    obtain ⟨p1, p3, p4, p5, p6⟩ := h
    have hx := hR.ev x
    rw [ex] at hx
    have hxv : a.eval x = .slice none 0 0 := hx.of_a
    obtain ⟨yb, m, c, news, ey, hm, hmc, y1, y2, y3, y4, y5, y6⟩ := run_firstCells (P := P) hk (hR.ev y) p3 p4
    rcases Nat.eq_zero_or_pos m with hm0 | hmp
    · subst hm0
      have hr0 : (st.ev y).rowsOf st.hp = [] := List.length_eq_zero_iff.1 y1
      rw [hr0] at p6
      simp only [List.length_nil] at p6
      have adv := new_nil (es := i.size) (refs := (st.ev y).rowIds st.hp) hk p1
      refine upon_value hex (v := .slice none 0 0) (w' := w) ?_ ⟨_, _, ⟨by rw [put_hp]; exact adv, (hR.adv adv).put hd (nil_own p1), by rw [put_hp]; simp⟩, p6⟩
      rw [hxv, ey]
      exact run_append_room (ty := o.type) (base := none) ht ht2 hi (by rw [← ey]; exact y3) (Nat.le_refl _) rfl
    · have hR1 : Rel { w with drawn := w.drawn + 1 } β F N st a := ⟨hR.hok, hR.sl, hR.df, hR.sz⟩
      obtain ⟨yb', m', c', news', ey', hm', hmc', y1', y2', y3', y4', y5', y6'⟩ := run_firstCells (P := P) (w := { w with drawn := w.drawn + 1 }) hk (hR1.ev y) p3 p4
      rw [ey] at ey'
      injection ey' with b1 b2 b3
      subst b1 b2 b3
      have hbytes : (0 + m) * i.bytes ≤ 140737488355328 := by
        have : ((m * i.bytes : Nat) : Int) ≤ 140737488355328 := by
          rw [Int.natCast_mul, hm]; exact p5
        rw [Nat.zero_add]; exact le_of_cast _ this
      obtain ⟨newCap, hcap, hrun⟩ := run_append_grow (P := P) (ty := o.type) (w := w) (base := none) (sLen := 0) (sCap := 0) (olds := #[]) ht ht2 hi hz hb (by simp [Builtin.firstCells]) (by rw [← ey]; exact y3') (by omega) hbytes
      have adv := new_cap (n := w.drawn + 1) (es := i.size) (cap := newCap) (refs := (st.ev y).rowIds st.hp) (rows := (st.ev y).rowsOf st.hp) (cs := #[] ++ news' ++ Builtin.zeroCells z.cells (newCap - (0 + m))) (E := e) hk p1 (by omega)
        (by simp only [Array.size_append, y4', zeroCells_size, hzs, List.size_toArray, List.length_nil, Nat.zero_add, ← Nat.add_mul]; exact Nat.mul_le_mul_right _ (by omega))
        (fun i' row h => y2 row (List.mem_of_getElem? h)) (fun i' row j y' h1 h2 => by
          obtain ⟨u, e1, e2⟩ := y6' i' row j y' h1 h2
          have hl := (Array.getElem?_eq_some_iff.1 e1).1
          refine ⟨u, ?_, y5' _ u e1, e2⟩
          rw [Array.empty_append, Array.getElem?_append, if_pos hl, e1])
      refine upon_value hex (by rw [hxv, ey]; exact hrun) ⟨_, _, ⟨by rw [put_hp]; exact adv, (hR.adv adv).put hd ?_, by rw [put_hp]; simp⟩, p6⟩
      have := cap_own (es := i.size) (cap := newCap) (refs := (st.ev y).rowIds st.hp) (rows := (st.ev y).rowsOf st.hp) (b := w.heap.size) p1 (hp := w.heap.push (.cells (#[] ++ news' ++ Builtin.zeroCells z.cells (newCap - (0 + m))) e)) (F := F) (β := β) rfl
      rw [y1] at this ⊢
      simpa only [Nat.zero_add] using this
  · next es' ex =>
    obtain ⟨rfl, p1, p3, p4, p5, p6⟩ := h
    have hx := hR.ev x
    rw [ex] at hx
    obtain ⟨bb, hxv⟩ : ∃ bb, a.eval x = .slice bb 0 0 := by
      generalize a.eval x = u at hx ⊢
      cases hx; exact ⟨_, rfl⟩
    obtain ⟨yb, m, c, news, ey, hm, hmc, y1, y2, y3, y4, y5, y6⟩ := run_firstCells (P := P) hk (hR.ev y) p3 p4
    rcases Nat.eq_zero_or_pos m with hm0 | hmp
    · subst hm0
      have hr0 : (st.ev y).rowsOf st.hp = [] := List.length_eq_zero_iff.1 y1
      rw [hr0] at p6
      simp only [List.isEmpty_nil, if_true] at p6
      refine upon_value hex (v := .slice bb 0 0) (w' := w) ?_ ⟨β, _, ⟨by rw [put_hp]; exact ⟨hR.hok, .refl _, .refl _ _⟩, hR.put hd .nul, by rw [put_hp]; exact Nat.le_refl _⟩, p6⟩
      rw [hxv, ey]
      have hns : news = #[] := Array.eq_empty_of_size_eq_zero (by simpa using y4)
      subst hns
      exact run_append_room (ty := o.type) (base := bb) ht ht2 hi (by rw [← ey]; exact y3) (Nat.le_refl _) (by cases bb <;> simp [storeCells])
    · have hne : ¬ ((st.ev y).rowsOf st.hp).isEmpty = true := by
        intro e
        rw [List.isEmpty_iff] at e
        rw [e] at y1; simp at y1; omega
      rw [if_neg hne] at p6
      have hR1 : Rel { w with drawn := w.drawn + 1 } β F N st a := ⟨hR.hok, hR.sl, hR.df, hR.sz⟩
      obtain ⟨yb', m', c', news', ey', hm', hmc', y1', y2', y3', y4', y5', y6'⟩ := run_firstCells (P := P) (w := { w with drawn := w.drawn + 1 }) hk (hR1.ev y) p3 p4
      rw [ey] at ey'
      injection ey' with b1 b2 b3
      subst b1 b2 b3
      have hbytes : (0 + m) * i.bytes ≤ 140737488355328 := by
        have : ((m * i.bytes : Nat) : Int) ≤ 140737488355328 := by
          rw [Int.natCast_mul, hm]; exact p5
        rw [Nat.zero_add]; exact le_of_cast _ this
      obtain ⟨newCap, hcap, hrun⟩ := run_append_grow (P := P) (ty := o.type) (w := w) (base := bb) (sLen := 0) (sCap := 0) (olds := #[]) ht ht2 hi hz hb (by cases bb <;> simp [Builtin.firstCells, loadCells, loadCellsFrom]) (by rw [← ey]; exact y3') (by omega) hbytes
      have adv := new_cap (n := w.drawn + 1) (es := i.size) (cap := newCap) (refs := (st.ev y).rowIds st.hp) (rows := (st.ev y).rowsOf st.hp) (cs := #[] ++ news' ++ Builtin.zeroCells z.cells (newCap - (0 + m))) (E := e) hk p1 (by omega)
        (by simp only [Array.size_append, y4', zeroCells_size, hzs, List.size_toArray, List.length_nil, Nat.zero_add, ← Nat.add_mul]; exact Nat.mul_le_mul_right _ (by omega))
        (fun i' row h => y2 row (List.mem_of_getElem? h)) (fun i' row j y' h1 h2 => by
          obtain ⟨u, e1, e2⟩ := y6' i' row j y' h1 h2
          have hl := (Array.getElem?_eq_some_iff.1 e1).1
          refine ⟨u, ?_, y5' _ u e1, e2⟩
          rw [Array.empty_append, Array.getElem?_append, if_pos hl, e1])
      refine upon_value hex (by rw [hxv, ey]; exact hrun) ⟨_, _, ⟨by rw [put_hp]; exact adv, (hR.adv adv).put hd ?_, by rw [put_hp]; simp⟩, p6⟩
      have := cap_own (es := i.size) (cap := newCap) (refs := (st.ev y).rowIds st.hp) (rows := (st.ev y).rowsOf st.hp) (b := w.heap.size) p1 (hp := w.heap.push (.cells (#[] ++ news' ++ Builtin.zeroCells z.cells (newCap - (0 + m))) e)) (F := F) (β := β) rfl
      rw [y1] at this ⊢
      simpa only [Nat.zero_add] using this
  · exact h.elim

end
end Go.Abs

/- Maps written; walks over texts. -/
namespace Go.Abs
set_option linter.unusedVariables false

section
variable {P : Program} {w : World} {β : Nat → Hd} {F : Nat → Prop} {N : Nat} {st : St} {a : Act}

theorem new_obj {H : Heap} {id : Nat} {o : O} {ob : Obj} (hk : HOK w.heap H β F) (hid : H[id]? = some .res) (hno : o ≠ .res) (ho : ∀ b, ownsB (H.set id o) (upd β id ⟨w.heap.size, 0, 0, 0, 0, false, 0, noSub⟩) id b → b = w.heap.size)
    (hro : ∀ c, c.hp[w.heap.size]? = some ob → RO c ⟨w.heap.size, 0, 0, 0, 0, false, 0, noSub⟩ o) :
    Adv F w H β { w with heap := w.heap.push ob } (H.set id o) (upd β id ⟨w.heap.size, 0, 0, 0, 0, false, 0, noSub⟩) := by
  have hnob : ∀ b, ¬ ownsB H β id b := fun b e => by unfold ownsB at e; rw [hid] at e; exact e
  obtain ⟨h1, h2, h3⟩ := hk.turn (hp' := w.heap.push ob) (o' := o) (h' := ⟨w.heap.size, 0, 0, 0, 0, false, 0, noSub⟩) hid (by simp)
    (fun b hb _ => by rw [Array.getElem?_push_lt hb]; exact (Array.getElem?_eq_getElem hb).symm)
    (fun b hb => .inr (Nat.le_of_eq (ho b hb).symm)) hno (fun g' _ e => by simp at e)
    (fun hle => hro _ (by show (w.heap.push ob)[w.heap.size]? = _; simp))
  exact ⟨h1, h2, ⟨rfl, rfl, rfl, by simp, fun b hb _ => by
    show (w.heap.push ob)[b]? = _
    rw [Array.getElem?_push_lt hb]; exact (Array.getElem?_eq_getElem hb).symm⟩⟩

/-- The object in its own block is changed there. -/
theorem wr_obj {H : Heap} {id : Nat} {o o' : O} {ob ob' : Obj} (hk : HOK w.heap H β F) (hid : H[id]? = some o) (hown : ownsB H β id (β id).b) (hhp : w.heap[(β id).b]? = some ob)
    (hno : o' ≠ .res) (ho : ∀ b, ownsB (H.set id o') β id b → b = (β id).b) (hhd : hdOf (H.set id o') β id = hdOf H β id)
    (hro : ∀ c, (cx w.heap H β F).le c → c.hp[(β id).b]? = some ob' → RO c (β id) o') :
    Adv F w H β { w with heap := w.heap.setIfInBounds (β id).b ob' } (H.set id o') β := by
  have hlt := hp_lt hhp
  obtain ⟨h1, h2, h3⟩ := hk.turn (hp' := w.heap.setIfInBounds (β id).b ob') (o' := o') (h' := β id) hid (by simp)
    (fun b hb hn => by
      rw [Array.getElem?_setIfInBounds_ne]
      intro e; subst e; exact hn hown)
    (fun b hb => by rw [upd_self] at hb; rw [ho b hb]; exact .inl hown) hno (fun g' hg _ => by rw [upd_self] at hg; rw [hhd] at hg; exact .inl hg)
    (fun hle => by
      refine hro _ (by rw [upd_self] at hle ⊢; exact hle) ?_
      show (w.heap.setIfInBounds (β id).b ob')[(β id).b]? = _
      simp [hlt])
  rw [upd_self] at h1 h2
  exact ⟨h1, h2, ⟨rfl, rfl, rfl, by simp, fun b hb hn => by
    show (w.heap.setIfInBounds (β id).b ob')[b]? = _
    rw [Array.getElem?_setIfInBounds_ne]
    intro e; subst e; exact hn ⟨id, hown⟩⟩⟩

theorem sound_mkm {o : Oper} {t : TypeId} {r : Nat} (hR : Rel w β F N st a) (ho : o.op = .makeMap t none) (hd : ∀ t, o.dst = some t → t < N) {k : St → Prop} (h : (I.mkm o.dst r).vc P k st) (Q : Exit → Act → World → Prop) :
    o.wp P a w (Then P F N w st β k) Q := by
  have hk := hR.hok
  obtain ⟨p1, p2⟩ := h
  have adv := new_obj (o := .map false [] []) (ob := .map #[] 0) hk p1 (by simp) (fun b e => by unfold ownsB at e; rw [get_set p1, upd_same] at e; exact e.symm)
    (fun c hc => ⟨by simp, #[], 0, hc, rfl, rfl, fun i e he => by simp at he, fun i e x he => by simp at he⟩)
  refine upon_value (s := Instr.makeMap t none) (by obtain ⟨dst, op, ty, pos, af, gu⟩ := o; simp only at ho; subst ho; rfl) (v := .map (some w.heap.size)) (w' := { w with heap := w.heap.push (.map #[] 0) }) ?_
    ⟨_, _, ⟨by rw [put_hp]; exact adv, (hR.adv adv).put hd ?_, by rw [put_hp]; simp⟩, p2⟩
  · simp [Instr.makeMap]
  · refine .mp ⟨_, get_set p1, by simp⟩ fun h e _ => ?_
    have e : hdOf (st.hp.set (st.bs + r) (.map false [] [])) (upd β (st.bs + r) ⟨w.heap.size, 0, 0, 0, 0, false, 0, noSub⟩) (st.bs + r) = some h := e
    unfold hdOf at e
    rw [get_set p1, upd_same] at e
    injection e with e; subst e; rfl

theorem sound_mup {o : Oper} {t kt et : TypeId} {m key v : Operand} {kd : IntKind} {ap : List Nat} (hR : Rel w β F N st a) (ho : o.op = .mapUpdate t m key v ∨ o.op = .insert t m key v) (hu : P.underlying t = some (.map kt et)) (hku : P.underlying kt = some (.int kd)) (hd : o.dst = none) {k : St → Prop}
    (h : (I.mup ap kd m key v).vc P k st) (Q : Exit → Act → World → Prop) : o.wp P a w (Then P F N w st β k) Q := by
  have hk := hR.hok
  simp only [I.vc] at h
  split at h
  · next id e =>
    split at h
    · next refs es hgd =>
      obtain ⟨_, p1, p2, p3⟩ := h
      have hid : st.hp[id]? = some (.map false refs es) := by
        cases hq : st.hp[id]? with
        | none => simp [List.getD, hq] at hgd
        | some o => rw [getD_some hq] at hgd; rw [hgd]
      have hx := hR.ev m
      rw [e] at hx
      have hmap : okMp st.hp (.mp id) := by show (st.hp.getD id .dead).isMap = true; rw [hgd]; rfl
      obtain ⟨q1, ents, clock, q2, q3, q4, q5, q6⟩ := hk.ro id _ hid
      have hm : a.eval m = .map (some (β id).b) := by
        cases hv : a.eval m with
        | _ => ?_
        all_goals
          rw [hv] at hx
          cases hx with
          | mp hl h => exact h ((β id).wt 0) (by show hdOf st.hp β id = _; simp [hdOf, hid]) rfl
      obtain ⟨k1, k2⟩ := (hR.ev key).key p2
      have hes : ∀ (i : Nat) (e : MapEntry) (y : V × V), ents.toList[i]? = some e → es[i]? = some y → RV (cx w.heap st.hp β F) e.key y.1 ∧ RV (cx w.heap st.hp β F) e.val y.2 := fun i e y h1 h2 =>
        ⟨(q6 i e y (by simpa using h1) h2).1.up, (q6 i e y (by simpa using h1) h2).2.up⟩
      have hsame : (execOp a.eval o) = (do Instr.mapUpdate t (a.eval m) (a.eval key) (a.eval v); pure Next.skip) := by
        obtain ⟨dst, op, ty, pos, af, gu⟩ := o; simp only at ho
        rcases ho with rfl | rfl <;> rfl
      have hown : ownsB st.hp β id (β id).b := by unfold ownsB; rw [hid]
      have fin : ∀ (ents' : Array MapEntry) (clock' : Nat), (Instr.mapUpdate t (a.eval m) (a.eval key) (a.eval v)).run P w = .ok () { w with heap := w.heap.setIfInBounds (β id).b (.map ents' clock') } →
          (∀ c, (cx w.heap st.hp β F).le c → c.hp[(β id).b]? = some (.map ents' clock') → RO c (β id) (.map false (addRefs refs (V.idsL [st.ev v])) (putE es (st.ev key) (st.ev v)))) → o.wp P a w (Then P F N w st β k) Q := by
        intro ents' clock' hrun hro
        have adv := wr_obj (o' := .map false (addRefs refs (V.idsL [st.ev v])) (putE es (st.ev key) (st.ev v))) hk hid hown q2 (by simp) (fun b e => by unfold ownsB at e; rw [get_set hid] at e; exact e.symm)
          (by unfold hdOf; rw [get_set hid, hid]) hro
        refine upon_skip hsame (w' := { w with heap := w.heap.setIfInBounds (β id).b (.map ents' clock') }) hrun ⟨β, _, ⟨adv, ?_, by simp⟩, p3⟩
        rw [hd]; exact hR.adv adv
      have hval : ∀ {c : Cx}, (cx w.heap st.hp β F).le c → RV (c.only (addRefs refs (V.idsL [st.ev v]))) (a.eval v) (st.ev v) := fun hle =>
        ((hR.ev v).mono hle).onlyOf _ fun i hi => addRefs_right _ _ (by simp [V.idsL, hi])
      have hold : ∀ {c : Cx} {u : Value} {y : V}, (cx w.heap st.hp β F).le c → RV ((cx w.heap st.hp β F).only refs) u y → RV (c.only (addRefs refs (V.idsL [st.ev v]))) u y := fun hle hu =>
        (hu.mono (hle.only refs)).mono (Cx.only_mono fun i hi => addRefs_left _ _ hi)
      rcases findNow_ents (n := (st.ev key).num) ents.toList es 0 (by simpa using q3) hes p1 with ⟨g1, _, g3⟩ | ⟨j, e0, y0, g1, g2, g3, g4, _, g6⟩
      · refine fin (ents.push { key := .int kd (st.ev key).num, val := a.eval v, born := clock }) (clock + 1) ?_ fun c hle hc => ⟨by simp, _, _, hc, ?_, ?_, fun i e he => ?_, fun i e x he hx => ?_⟩
        · rw [hm, k1]
          simp only [Instr.mapUpdate, Sem.run_bind, run_underlying' hu, Result.andThen_ok, run_getMap q2, run_checkKey_int hku, run_findKey_int (c := cx w.heap st.hp β F) hku g1, MapKept.run_setObj_map _ q2]
        · rw [g3 _ _ rfl]; simp [q3]
        · simp [q4]
        · rw [Array.getElem?_push] at he
          split at he
          · next hi => injection he with he; subst he; rw [hi, q4]
          · exact q5 i e he
        · rw [g3 _ _ rfl, List.getElem?_append] at hx
          rw [Array.getElem?_push] at he
          split at he
          · next hi =>
            injection he with he; subst he
            rw [if_neg (by omega)] at hx
            have : i - es.length = 0 := by omega
            rw [this] at hx
            simp only [List.getElem?_cons_zero, Option.some.injEq] at hx
            subst hx
            exact ⟨by rw [k2]; exact .a, hval hle⟩
          · next hi =>
            have hlt : i < es.length := by have := (Array.getElem?_eq_some_iff.1 he).1; omega
            rw [if_pos hlt] at hx
            exact ⟨(q6 i e x he hx).1.mono (hle.only []), hold hle (q6 i e x he hx).2⟩
      · have hj : ents[j]? = some e0 := by simpa using g2
        refine fin (ents.modify j fun e => { e with key := .int kd (st.ev key).num, val := a.eval v }) clock ?_ fun c hle hc => ⟨by simp, _, _, hc, ?_, ?_, fun i e he => ?_, fun i e x he hx => ?_⟩
        · rw [hm, k1]
          have hkey : (((ents[0 + j]?).map (·.key)).getD (.int kd (st.ev key).num)) = .int kd (st.ev key).num := by rw [Nat.zero_add, hj]; simp [g4]
          simp only [Instr.mapUpdate, Sem.run_bind, run_underlying' hu, Result.andThen_ok, run_getMap q2, run_checkKey_int hku, run_findKey_int (c := cx w.heap st.hp β F) hku g1, hkey]
          rw [MapKept.run_keyThatStays (d := .int kd) (by rfl)]
          simp only [Result.andThen_ok, MapKept.run_setObj_map _ q2, Nat.zero_add]
        · rw [g6 _ _ rfl]; simp [q3]
        · simp [q4]
        · rw [Array.getElem?_modify] at he
          split at he
          · next hi =>
            subst hi
            rw [hj] at he
            simp only [Option.map_some, Option.some.injEq] at he
            subst he
            exact q5 j e0 hj
          · exact q5 i e he
        · rw [g6 _ _ rfl] at hx
          rw [Array.getElem?_modify] at he
          split at he
          · next hi =>
            subst hi
            rw [hj] at he
            simp only [Option.map_some, Option.some.injEq] at he
            subst he
            rw [get_set g3] at hx
            injection hx with hx; subst hx
            refine ⟨?_, hval hle⟩
            have := (q6 j e0 y0 hj g3).1.mono (hle.only [])
            rw [g4] at this; exact this
          · next hi =>
            rw [getElem?_set_ne' (fun e => hi e.symm)] at hx
            exact ⟨(q6 i e x he hx).1.mono (hle.only []), hold hle (q6 i e x he hx).2⟩
    · exact h.elim
  · exact h.elim

theorem sound_rng {o : Oper} {t : TypeId} {x : Operand} {r : Nat} (hR : Rel w β F N st a) (ho : o.op = .range t x) (hu : P.underlying t = some .string) (hd : ∀ t, o.dst = some t → t < N) {k : St → Prop} (h : (I.rng o.dst r x).vc P k st) (Q : Exit → Act → World → Prop) :
    o.wp P a w (Then P F N w st β k) Q := by
  have hk := hR.hok
  obtain ⟨p1, p2, p3⟩ := h
  have adv := new_obj (o := .sit (st.ev x).txt 0) (ob := .stringIter (st.ev x).txt 0) hk p1 (by simp) (fun b e => by unfold ownsB at e; rw [get_set p1, upd_same] at e; exact e.symm)
    (fun c hc => ⟨rfl, rfl, rfl, rfl, hc⟩)
  refine upon_value (s := Instr.range t (a.eval x)) (by obtain ⟨dst, op, ty, pos, af, gu⟩ := o; simp only at ho; subst ho; rfl) (v := .pointer (some ⟨w.heap.size, 0, none⟩)) (w' := { w with heap := w.heap.push (.stringIter (st.ev x).txt 0) }) ?_
    ⟨_, _, ⟨by rw [put_hp]; exact adv, (hR.adv adv).put hd ?_, by rw [put_hp]; simp⟩, p3⟩
  · rw [(hR.ev x).of_str p2]
    simp [Instr.range, run_underlying' hu]
  · refine .ptr ⟨_, get_set p1, by simp⟩ fun h e => ?_
    have e : hdOf (st.hp.set (st.bs + r) (.sit (st.ev x).txt 0)) (upd β (st.bs + r) ⟨w.heap.size, 0, 0, 0, 0, false, 0, noSub⟩) (st.bs + r) = some h := e
    unfold hdOf at e
    rw [get_set p1, upd_same] at e
    injection e with e; subst e
    exact ⟨Nat.zero_le _, fun _ => ⟨Nat.zero_le _, rfl, rfl⟩⟩

theorem run_getObj' {b : Nat} {s : ByteArray} {pos : Nat} (hb : w.heap[b]? = some (.stringIter s pos)) : (getObj b).run P w = .ok (.stringIter s pos) w := by
  simp [getObj, Sem.run, hb]
theorem run_setObj' {b : Nat} {s : ByteArray} {pos : Nat} (o : Obj) (hb : w.heap[b]? = some (.stringIter s pos)) : (setObj b o).run P w = .ok () { w with heap := w.heap.setIfInBounds b o } := by
  simp [setObj, Sem.run, hb]

theorem sound_nxt {o : Oper} {x : Operand} (hR : Rel w β F N st a) (ho : o.op = .next x true) (hd : ∀ t, o.dst = some t → t < N) {k : St → Prop} (h : (I.nxt o.dst x).vc P k st) (Q : Exit → Act → World → Prop) :
    o.wp P a w (Then P F N w st β k) Q := by
  have hk := hR.hok
  simp only [I.vc] at h
  split at h
  · next id e =>
    split at h
    · next s pos hgd =>
      have hid : st.hp[id]? = some (.sit s pos) := by
        cases hq : st.hp[id]? with
        | none => simp [List.getD, hq] at hgd
        | some o => rw [getD_some hq] at hgd; rw [hgd]
      obtain ⟨q1, q2, q3, q4, q5⟩ := hk.ro id _ hid
      have q5 : w.heap[(β id).b]? = some (.stringIter s pos) := q5
      have hx := hR.ev x
      rw [e] at hx
      have hm : a.eval x = .pointer (some ⟨(β id).b, 0, none⟩) := by
        cases hv : a.eval x with
        | _ => ?_
        all_goals
          rw [hv] at hx
          cases hx with
          | ptr hl h =>
            obtain ⟨_, g0⟩ := h ((β id).wt 0) (by show hdOf st.hp β id = _; simp [hdOf, hid])
            obtain ⟨_, _, g⟩ := g0 rfl
            rw [g]
            simp only [Hd.wt, q2, q1, Nat.zero_mul, Nat.add_zero, Nat.sub_self]
      have hs : (execOp a.eval o) = (do pure (Next.value (← Instr.next (a.eval x) true o.type))) := by
        obtain ⟨dst, op, ty, pos, af, gu⟩ := o; simp only at ho; subst ho; rfl
      split at h
      · next hlt =>
        have hown : ownsB st.hp β id (β id).b := by unfold ownsB; rw [hid]
        have adv := wr_obj (o' := .sit s (pos + (Utf8.decode s pos).2)) (ob' := .stringIter s (pos + (Utf8.decode s pos).2)) hk hid hown q5 (by simp) (fun b e => by unfold ownsB at e; rw [get_set hid] at e; exact e.symm)
          (by unfold hdOf; rw [get_set hid, hid]) (fun c _ hc => ⟨q1, q2, q3, q4, hc⟩)
        refine upon_value hs (v := .tuple #[.bool true, goInt pos, .int .i32 (Utf8.decode s pos).1]) (w' := { w with heap := w.heap.setIfInBounds (β id).b (.stringIter s (pos + (Utf8.decode s pos).2)) }) ?_
          ⟨β, _, ⟨by rw [put_hp]; exact adv, (hR.adv adv).put hd ?_, by rw [put_hp]; simp⟩, h⟩
        · rw [hm]
          simp only [Instr.next, Sem.run_bind, run_getObj' q5, Result.andThen_ok, hlt, if_true, run_setObj' _ q5, Sem.run_pure]
        · refine .tup rfl fun i v y h1 h2 => ?_
          match i with
          | 0 => simp at h1 h2; subst h1; subst h2; exact .a
          | 1 => simp at h1 h2; subst h1; subst h2; exact .a
          | 2 => simp at h1 h2; subst h1; subst h2; exact .a
          | i + 3 => simp at h1
      · next hge =>
        refine upon_value hs (v := .tuple #[.bool false]) (w' := w) ?_ ⟨β, _, ⟨by rw [put_hp]; exact ⟨hR.hok, .refl _, .refl _ _⟩, hR.put hd ?_, by rw [put_hp]; exact Nat.le_refl _⟩, h⟩
        · rw [hm]
          simp only [Instr.next, Sem.run_bind, run_getObj' q5, Result.andThen_ok, hge, if_false, Sem.run_pure]
        · refine .tup rfl fun i v y h1 h2 => ?_
          match i with
          | 0 => simp at h1 h2; subst h1; subst h2; exact .a
          | i + 1 => simp at h1
    · exact h.elim
  · exact h.elim

end
end Go.Abs

/- A slice's elements cleared, copied; a new slice of zeros. -/
namespace Go.Abs
set_option linter.unusedVariables false

section
variable {P : Program} {w : World} {β : Nat → Hd} {F : Nat → Prop} {N : Nat} {st : St} {a : Act} {H : Heap} {id off : Nat} {refs refs' : List Nat} {rows R : List (List V)}

theorem mid_get (k : Nat) (hn : off + R.length ≤ rows.length) : (rows.take off ++ R ++ rows.drop (off + R.length))[k]? = if off ≤ k ∧ k < off + R.length then R[k - off]? else rows[k]? := by
  rw [List.append_assoc, List.getElem?_append]
  simp only [List.length_take, show min off rows.length = off from by omega]
  by_cases h1 : k < off
  · rw [if_pos h1, if_neg (by omega), List.getElem?_take, if_pos h1]
  · rw [if_neg h1, List.getElem?_append]
    by_cases h2 : k - off < R.length
    · rw [if_pos h2, if_pos (by omega)]
    · rw [if_neg h2, if_neg (by omega), List.getElem?_drop]
      congr 1; omega

theorem mid_length (hn : off + R.length ≤ rows.length) : (rows.take off ++ R ++ rows.drop (off + R.length)).length = rows.length := by
  simp; omega

/-- Rows written over. -/
theorem wr_rows {es : Nat} {vs : List Value} (hk : HOK w.heap H β F) (hid : H[id]? = some (.mem false refs rows)) (hs : ∀ i ∈ refs, i ∈ refs') (hnil : (β id).nil = false) (hes : (β id).es = es)
    (hlo : (β id).lo ≤ off) (hn : off + R.length ≤ rows.length) (hys : ∀ row ∈ R, row.length = es) (hvs : vs.length = R.length * es) (hone : ∀ v ∈ vs, v.oneCell' = true)
    (hr : ∀ (i : Nat) (row : List V) (j : Nat) (y : V), R[i]? = some row → row[j]? = some y → ∃ u, vs[i * es + j]? = some u ∧ RV ((cx w.heap H β F).only refs') u y) :
    ∃ w', (storeCells ⟨(β id).b, (β id).o + (off - (β id).lo) * es, none⟩ vs).run P w = .ok () w' ∧ Adv F w H β w' (H.set id (.mem false refs' (rows.take off ++ R ++ rows.drop (off + R.length)))) β := by
  rcases hk.ro id _ hid with hro | ⟨q1, q2, q3, q4, q5, cs, E, fr, q6, q7, q8, q9⟩
  · rw [hro.1] at hnil; cases hnil
  obtain rfl := q7 rfl
  subst hes
  have hoff : (β id).o + (off - (β id).lo) * (β id).es + vs.length ≤ cs.size := by
    have h2 : (off - (β id).lo + R.length) * (β id).es ≤ (β id).cap * (β id).es := Nat.mul_le_mul_right _ (by omega)
    rw [Nat.add_mul] at h2
    omega
  have hbs : (β id).b < w.heap.size := hp_lt q6
  have hown : ∀ b, ownsB H β id b ↔ (β id).b = b := fun b => by unfold ownsB; rw [hid]; simp [q1]
  have hupd : upd β id (β id) = β := upd_self β id
  have hml : (rows.take off ++ R ++ rows.drop (off + R.length)).length = rows.length := mid_length hn
  refine ⟨_, run_storeCells (P := P) vs w cs 0 q6 (by simpa using hoff) hone, ?_⟩
  obtain ⟨h1, h2, h3⟩ := hk.turn (hp' := w.heap.setIfInBounds (β id).b (.cells (setFrom cs ((β id).o + (off - (β id).lo) * (β id).es + 0) vs) E (0, 0)))
    (o' := .mem false refs' (rows.take off ++ R ++ rows.drop (off + R.length))) (h' := β id) hid (by simp)
    (fun b hb hn' => by rw [Array.getElem?_setIfInBounds, if_neg fun e => hn' ((hown b).2 e)])
    (fun b hb => by
      unfold ownsB at hb
      rw [get_set hid, upd_same] at hb
      exact .inl ((hown b).2 hb.2))
    (by simp) (fun g' hg _ => by
      left
      rw [hdOf_new (β' := β) hid, hml] at hg
      unfold hdOf
      rw [hid]
      exact hg)
    (fun hle => by
      refine .inr ⟨q1, by rw [hml]; exact q2, by rw [hml]; exact q3, fun k r hk' => ?_, by simp, setFrom cs ((β id).o + (off - (β id).lo) * (β id).es + 0) vs, E, (0, 0), ?_, by simp, by rw [setFrom_size]; exact q8, fun k r hk' hlok m x hm => ?_⟩
      · rw [mid_get k hn] at hk'
        split at hk'
        · exact hys r (List.mem_of_getElem? hk')
        · exact q4 k r hk'
      · show (w.heap.setIfInBounds _ _)[(β id).b]? = _
        rw [Array.getElem?_setIfInBounds, if_pos rfl, if_pos hbs]
      · rw [setFrom_get _ _ _ _ (by simpa using hoff), Nat.add_zero]
        rw [mid_get k hn] at hk'
        split at hk'
        · next hin =>
          have hml : m < (β id).es := by rw [← hys r (List.mem_of_getElem? hk')]; exact lt_of_get hm
          have h2 : (k - off + 1) * (β id).es ≤ R.length * (β id).es := Nat.mul_le_mul_right _ (by omega)
          rw [Nat.add_mul] at h2
          have e0 : (k - (β id).lo) * (β id).es = (off - (β id).lo) * (β id).es + (k - off) * (β id).es := by rw [← Nat.add_mul]; congr 1; omega
          rw [if_pos (by omega)]
          obtain ⟨u, hu, ru⟩ := hr _ r m x hk' hm
          refine ⟨u, ?_, hone u (List.mem_of_getElem? hu), ru.mono (hle.only _)⟩
          rw [← hu]; congr 1; omega
        · next hin =>
          have hml : m < (β id).es := by rw [← q4 k r hk']; exact lt_of_get hm
          have hout : ¬ ((β id).o + (off - (β id).lo) * (β id).es ≤ (β id).o + (k - (β id).lo) * (β id).es + m ∧ (β id).o + (k - (β id).lo) * (β id).es + m < (β id).o + (off - (β id).lo) * (β id).es + vs.length) := by
            intro ⟨a1, a2⟩
            rcases Nat.lt_or_ge k off with e | e
            · have h2 : (k - (β id).lo + 1) * (β id).es ≤ (off - (β id).lo) * (β id).es := Nat.mul_le_mul_right _ (by omega)
              rw [Nat.add_mul] at h2
              omega
            · have h2 : (off - (β id).lo + R.length) * (β id).es ≤ (k - (β id).lo) * (β id).es := Nat.mul_le_mul_right _ (by omega)
              rw [Nat.add_mul] at h2
              omega
          rw [if_neg hout]
          obtain ⟨v, e1, e2, e3⟩ := q9 k r hk' hlok m x hm
          exact ⟨v, e1, e2, (e3.mono (Cx.only_mono hs)).mono (hle.only _)⟩)
  rw [hupd] at h1 h2
  exact ⟨h1, h2, ⟨rfl, rfl, rfl, by simp, fun b hb hn => by
    show (w.heap.setIfInBounds _ _)[b]? = _
    rw [Array.getElem?_setIfInBounds, if_neg fun e => hn ⟨id, (hown b).2 e⟩]⟩⟩

theorem zeroCells_get {z : Array Value} {n k : Nat} (hk : k < n * z.size) (hz : 0 < z.size) : (Builtin.zeroCells z n)[k]? = z[k % z.size]? := by
  have := Nat.mod_lt k hz
  simp [Builtin.zeroCells, hk, getElem!_pos z (k % z.size) this, this]

theorem mem_id {id : Nat} {refs : List Nat} {rows : List (List V)} (hgd : H.getD id .dead = .mem false refs rows) : H[id]? = some (.mem false refs rows) := by
  cases hq : H[id]? with
  | none => simp [List.getD, hq] at hgd
  | some o => rw [getD_some hq] at hgd; rw [hgd]

theorem wrap64' {n : Int} (h1 : -9223372036854775808 ≤ n) (h2 : n ≤ 9223372036854775807) : IntKind.i64.wrap n = n := by
  show (if (true && decide (n % 18446744073709551616 ≥ 9223372036854775808)) = true then n % 18446744073709551616 - 18446744073709551616 else n % 18446744073709551616) = n
  simp only [Bool.true_and, decide_eq_true_eq]
  split <;> omega

theorem clr_exec {o : Oper} {ats : Array TypeId} {args : Array Operand} (ho : o.op = .call { callee := .builtin .clear, args := args, argTypes := ats }) :
    execOp a.eval o = (do pure (Next.value (← Builtin.clear_ ats o.type (args.map a.eval)))) := by
  obtain ⟨dst, op, ty, pos, af, gu⟩ := o
  simp only at ho
  subst ho
  rfl

theorem cpy_exec {o : Oper} {ats : Array TypeId} {args : Array Operand} (ho : o.op = .call { callee := .builtin .copy, args := args, argTypes := ats }) :
    execOp a.eval o = (do pure (Next.value (← Builtin.copy_ ats o.type (args.map a.eval)))) := by
  obtain ⟨dst, op, ty, pos, af, gu⟩ := o
  simp only at ho
  subst ho
  rfl

theorem run_clear {P : Program} {w w' : World} {ats : Array TypeId} {ty t e : TypeId} {vs : Array Value} {i : TypeInfo} {z : Value} {ad : Addr} {n c : Nat} (h1 : ats[0]? = some t) (h3 : vs[0]? = some (.slice (some ad) n c))
    (ht : P.underlying t = some (.slice e)) (hi : P.info? e = some i) (hz : i.zero = some z) (hn : 0 < n) (hs : (storeCells ad (Builtin.zeroCells z.cells n).toList).run P w = .ok () w') :
    (Builtin.clear_ ats ty vs).run P w = .ok (.tuple #[]) w' := by
  obtain ⟨m, rfl⟩ : ∃ m, n = m + 1 := ⟨n - 1, by omega⟩
  unfold Builtin.clear_
  simp only [h1, h3, Sem.run_bind, run_underlying' ht, Result.andThen_ok, run_zeroValue' hi hz, hs, Sem.run_pure]

theorem run_clear_none {P : Program} {w : World} {ats : Array TypeId} {ty t e : TypeId} {vs : Array Value} {b : Option Addr} {c : Nat} (h1 : ats[0]? = some t) (h3 : vs[0]? = some (.slice b 0 c))
    (ht : P.underlying t = some (.slice e)) : (Builtin.clear_ ats ty vs).run P w = .ok (.tuple #[]) w := by
  unfold Builtin.clear_
  cases b <;> simp only [h1, h3, Sem.run_bind, run_underlying' ht, Result.andThen_ok, Sem.run_pure]

theorem run_copy {P : Program} {w w' : World} {ats : Array TypeId} {ty t e : TypeId} {vs : Array Value} {i : TypeInfo} {base yb : Option Addr} {n c m yc : Nat} {news : Array Value} (h1 : ats[0]? = some t) (h3 : vs[0]? = some (.slice base n c))
    (h4 : vs[1]? = some (.slice yb m yc)) (ht : P.underlying t = some (.slice e)) (hi : P.info? e = some i) (hmn : m ≤ n) (hf : (Builtin.firstCells i.size m (.slice yb m yc)).run P w = .ok news w)
    (hs : ∀ ad, base = some ad → (storeCells ad news.toList).run P w = .ok () w') (hb : base = none → w' = w) :
    (Builtin.copy_ ats ty vs).run P w = .ok (goInt m) w' := by
  unfold Builtin.copy_
  have hmin : Nat.min m n = m := Nat.min_eq_left hmn
  cases base with
  | none =>
    simp only [h1, h3, h4, Sem.run_bind, run_underlying' ht, Result.andThen_ok, Builtin.lenOf, Sem.run_pure, hmin, run_sizeOf' hi, hf, hb rfl]
  | some ad =>
    simp only [h1, h3, h4, Sem.run_bind, run_underlying' ht, Result.andThen_ok, Builtin.lenOf, Sem.run_pure, hmin, run_sizeOf' hi, hf, hs ad rfl]

/-- Where one's own slice lies. -/
theorem own_at (P : Program) {id es off len : Nat} {refs : List Nat} {rows : List (List V)} {v : Value} (hk : HOK w.heap st.hp β F) (hid : st.hp[id]? = some (.mem false refs rows)) (hx : RV (cx w.heap st.hp β F) v (.own id es off len rows.length)) :
    ∃ base c, v = .slice base len c ∧ (β id).lo ≤ off ∧ (β id).es = es ∧ (0 < len → (β id).nil = false ∧ off + len ≤ rows.length ∧ base = some ⟨(β id).b, (β id).o + (off - (β id).lo) * es, none⟩) := by
  have hxo : okSl st.hp (.own id es off len rows.length) := by
    show _ ∧ _
    rw [getD_some hid]; exact ⟨rfl, rfl⟩
  obtain ⟨xb, xm, xc, olds, ex', hxm, hxmc, _⟩ := run_firstCells (P := P) hk hx hxo (es := es) rfl
  obtain rfl : xm = len := by simp [V.slLen] at hxm; omega
  subst ex'
  cases hx with
  | own hl hh =>
  obtain ⟨g1, g2⟩ := hh ((β id).wt rows.length) (by show hdOf st.hp β id = _; simp [hdOf, hid])
  obtain ⟨g3, g4, g5⟩ := g2 rfl
  have g3' : (β id).lo ≤ off := g3
  have g4' : (β id).es = es := g4
  refine ⟨xb, xc, rfl, g3', g4', fun hlen => ?_⟩
  rcases g5 with ⟨g6, ⟨ad, g7⟩, g8⟩ | ⟨g6, ad, g7, g8, g9⟩
  · injection g7 with a1 a2 a3; omega
  · injection g7 with a1 a2 a3
    have a3' : xc = (β id).cap - (off - (β id).lo) := a3
    have g9' : ad = ⟨(β id).b, (β id).o + (off - (β id).lo) * (β id).es, none⟩ := g9 (by show off - (β id).lo < (β id).cap; omega)
    refine ⟨g6, g8, ?_⟩
    rw [a1, g9', g4']

theorem sound_clr {o : Oper} {args : Array Operand} {ats : Array TypeId} {x : Operand} {t e : TypeId} {i : TypeInfo} {z : Value} (hR : Rel w β F N st a)
    (ho : o.op = .call { callee := .builtin .clear, args := args, argTypes := ats }) (h0 : ats[0]? = some t) (ha0 : args[0]? = some x)
    (ht : P.underlying t = some (.slice e)) (hi : P.info? e = some i) (hz : i.zero = some z) (hzs : z.cells.size = i.size) (hsz : 0 < i.size) (hone : z.cells.toList.all (·.oneCell'))
    (hd : ∀ t, o.dst = some t → t < N) {k : St → Prop} (h : (I.clr o.dst i.size (z.cells.toList.map .a) x).vc P k st) (Q : Exit → Act → World → Prop) :
    o.wp P a w (Then P F N w st β k) Q := by
  have hk := hR.hok
  have hex := clr_exec (a := a) ho
  have hone' : ∀ (i : Nat) (u : Value), z.cells[i]? = some u → u.oneCell' = true := fun i u hu => List.all_eq_true.1 hone u (by simpa using Array.mem_of_getElem? hu)
  have hx := hR.ev x
  simp only [I.vc] at h
  split at h
  · next id es' off len tot ex =>
    split at h
    · next refs rows hgd =>
      obtain ⟨rfl, rfl, p2, p3, p6⟩ := h
      have hid := mem_id hgd
      rw [ex] at hx
      obtain ⟨base, c, ev, g1, g2, g3⟩ := own_at P hk hid hx
      rcases Nat.eq_zero_or_pos len with hl0 | hlp
      · subst hl0
        have adv := app_same (refs' := refs) hk hid (fun _ h => h)
        refine upon_value hex (v := .tuple #[]) (w' := w) (run_clear_none h0 (b := base) (c := c) (by simp [ha0, ev]) ht) ⟨β, _, ⟨?_, ?_, by rw [put_hp]; simp⟩, p6⟩
        · rw [put_hp]; simpa using adv
        · refine Rel.put (?_ : Rel w β F N { st with hp := _ } a) hd .a
          simpa using hR.adv adv
      · obtain ⟨g4, g5, g6⟩ := g3 hlp
        have hsz' : 0 < z.cells.size := by omega
        obtain ⟨w', r1, adv⟩ := wr_rows (P := P) (refs' := refs) (R := List.replicate len (z.cells.toList.map .a)) (vs := (Builtin.zeroCells z.cells len).toList) hk hid (fun _ h => h) g4 g2 g1 (by simpa using p2)
          (fun row hrow => by rw [List.eq_of_mem_replicate hrow]; simpa using hzs) (by simp [zeroCells_size, hzs])
          (fun v hv => by
            obtain ⟨q, hq⟩ := List.getElem?_of_mem hv
            have hlt := lt_of_get hq
            simp only [Array.length_toList, zeroCells_size] at hlt
            rw [Array.getElem?_toList, zeroCells_get hlt hsz'] at hq
            exact hone' _ _ hq)
          (fun q row j y hq hj => by
            rw [List.getElem?_replicate] at hq
            split at hq
            · next hql =>
              injection hq with hq
              subst hq
              simp only [List.getElem?_map, Option.map_eq_some_iff, Array.getElem?_toList] at hj
              obtain ⟨u, hu, rfl⟩ := hj
              have hjl : j < i.size := by rw [← hzs]; exact (Array.getElem?_eq_some_iff.1 hu).1
              have h2 : (q + 1) * i.size ≤ len * i.size := Nat.mul_le_mul_right _ hql
              rw [Nat.add_mul] at h2
              refine ⟨u, ?_, .a⟩
              rw [Array.getElem?_toList, zeroCells_get (by rw [hzs]; omega) hsz', hzs, Nat.mul_comm q, Nat.mul_add_mod, Nat.mod_eq_of_lt hjl]
              exact hu
            · cases hq)
        refine upon_value hex (v := .tuple #[]) (w' := w') (run_clear h0 (by simp [ha0, ev, g6]; rfl) ht hi hz hlp r1) ⟨β, _, ⟨?_, ?_, by rw [put_hp]; simp⟩, p6⟩
        · rw [put_hp]; simpa using adv
        · refine Rel.put (?_ : Rel w' β F N { st with hp := _ } a) hd .a
          simpa using hR.adv adv
    · exact h.elim
  · next ex =>
    rw [ex] at hx
    have ev := hx.of_a
    refine upon_value hex (v := .tuple #[]) (w' := w) (run_clear_none h0 (b := none) (c := 0) (by simp [ha0, ev]) ht) ⟨β, _, ⟨?_, hR.put hd .a, by rw [put_hp]; simp⟩, h⟩
    rw [put_hp]; exact ⟨hk, .refl _, .refl _ _⟩
  · exact h.elim

theorem sound_cpy {o : Oper} {args : Array Operand} {ats : Array TypeId} {x y : Operand} {t e : TypeId} {i : TypeInfo} (hR : Rel w β F N st a)
    (ho : o.op = .call { callee := .builtin .copy, args := args, argTypes := ats }) (h0 : ats[0]? = some t) (ha0 : args[0]? = some x) (ha1 : args[1]? = some y)
    (ht : P.underlying t = some (.slice e)) (hi : P.info? e = some i) (hsz : 0 < i.size)
    (hd : ∀ t, o.dst = some t → t < N) {k : St → Prop} (h : (I.cpy o.dst i.size x y).vc P k st) (Q : Exit → Act → World → Prop) :
    o.wp P a w (Then P F N w st β k) Q := by
  have hk := hR.hok
  have hex := cpy_exec (a := a) ho
  have hx := hR.ev x
  simp only [I.vc] at h
  split at h
  · next id es' off len tot ex =>
    split at h
    · next refs rows hgd =>
      obtain ⟨rfl, rfl, p2, p3, p4, p5, p6⟩ := h
      have hid := mem_id hgd
      rw [ex] at hx
      obtain ⟨base, c, ev, g1, g2, g3⟩ := own_at P hk hid hx
      obtain ⟨yb, m, yc, news, ey, hm, hmc, y1, y2, y3, y4, y5, y6⟩ := run_firstCells (P := P) hk (hR.ev y) p3 p4
      have hsub : ∀ q ∈ refs, q ∈ addRefs refs ((st.ev y).rowIds st.hp) := fun q hq => addRefs_left _ _ hq
      have hml : m ≤ len := by omega
      rcases Nat.eq_zero_or_pos m with hl0 | hlp
      · subst hl0
        have hr0 : (st.ev y).rowsOf st.hp = [] := List.length_eq_zero_iff.1 y1
        have adv := app_same (refs' := addRefs refs ((st.ev y).rowIds st.hp)) hk hid hsub
        have hns : news = #[] := Array.eq_empty_of_size_eq_zero (by simpa using y4)
        subst hns
        rw [hr0] at p6
        refine upon_value hex (v := goInt 0) (w' := w) (run_copy h0 (base := base) (n := len) (c := c) (yb := yb) (yc := yc) (by simp [ha0, ev]) (by simp [ha1, ey]) ht hi hml (by rw [← ey]; exact y3) (fun ad _ => by simp [storeCells]) (fun _ => rfl)) ⟨β, _, ⟨?_, ?_, by rw [put_hp]; simp⟩, p6⟩
        · rw [put_hp]; simpa using adv
        · rw [← hm]
          refine Rel.put (?_ : Rel w β F N { st with hp := _ } a) hd .a
          simpa using hR.adv adv
      · obtain ⟨g4, g5, g6⟩ := g3 (by omega)
        obtain ⟨w', r1, adv⟩ := wr_rows (P := P) (refs' := addRefs refs ((st.ev y).rowIds st.hp)) (R := (st.ev y).rowsOf st.hp) (vs := news.toList) hk hid hsub g4 g2 g1 (by omega)
          y2 (by simpa [y1] using y4) (fun u hu => by obtain ⟨q, hq⟩ := List.getElem?_of_mem hu; exact y5 q u (by simpa using hq)) (fun i' row j y' h1 h2 => by
            obtain ⟨u, e1, e2⟩ := y6 i' row j y' h1 h2
            exact ⟨u, by simpa using e1, e2.mono (Cx.only_mono fun q hq => addRefs_right _ _ hq)⟩)
        refine upon_value hex (v := goInt m) (w' := w') (run_copy h0 (base := base) (n := len) (c := c) (yb := yb) (yc := yc) (by simp [ha0, ev]) (by simp [ha1, ey]) ht hi hml (by rw [← ey]; exact y3) (fun ad hb => by rw [g6] at hb; injection hb with hb; subst hb; exact r1) (fun hb => by rw [g6] at hb; cases hb)) ⟨β, _, ⟨?_, ?_, by rw [put_hp]; simp⟩, p6⟩
        · rw [put_hp]; exact adv
        · rw [← hm]
          exact Rel.put (hR.adv adv : Rel w' β F N { st with hp := _ } a) hd .a
    · exact h.elim
  · exact h.elim

theorem sound_mks {o : Oper} {t e : TypeId} {x : Operand} {i : TypeInfo} {z : Value} {r : Nat} (hR : Rel w β F N st a) (ho : o.op = .makeSlice t x x)
    (hu : P.underlying t = some (.slice e)) (hi : P.info? e = some i) (hz : i.zero = some z) (hsz : z.cells.size = i.size) (hpos : 0 < i.size) (hbp : 0 < i.bytes) (hone : z.cells.toList.all (·.oneCell'))
    (hd : ∀ t, o.dst = some t → t < N) {k : St → Prop} (h : (I.mks o.dst r i.size i.bytes (z.cells.toList.map .a) x).vc P k st) (Q : Exit → Act → World → Prop) :
    o.wp P a w (Then P F N w st β k) Q := by
  have hk := hR.hok
  obtain ⟨p1, p2, ⟨m, em⟩, p3, p4, p5⟩ := h
  have hone' : ∀ (i : Nat) (u : Value), z.cells[i]? = some u → u.oneCell' = true := fun i u hu => List.all_eq_true.1 hone u (by simpa using Array.mem_of_getElem? hu)
  have hzp : 0 < z.cells.size := by rw [hsz]; exact hpos
  have ev : a.eval x = .int .i64 m := by have := hR.ev x; rw [em] at this; exact this.of_a
  have en : (st.ev x).num = m := by rw [em]; rfl
  rw [en] at p3 p4 p5
  obtain ⟨n, rfl⟩ : ∃ n : Nat, m = n := ⟨m.toNat, by omega⟩
  have hnb : n * i.bytes ≤ 140737488355328 := by
    have h1 : ((n * i.bytes : Nat) : Int) ≤ 140737488355328 := by rw [Int.natCast_mul]; exact p4
    exact le_of_cast _ h1
  have hnn : n ≤ n * i.bytes := Nat.le_mul_of_pos_right _ hbp
  simp only [Int.toNat_natCast] at p5
  have base : ∀ (k : Nat) (u : Value), ((Array.range (n * i.size)).map (z.cells[· % z.cells.size]!))[k]? = some u → k < n * i.size ∧ z.cells[k % z.cells.size]? = some u := by
    intro k u hk'
    simp only [Array.getElem?_map, Option.map_eq_some_iff] at hk'
    obtain ⟨q, hq, rfl⟩ := hk'
    obtain ⟨hlt, hq⟩ := Array.getElem?_eq_some_iff.1 hq
    simp at hlt hq
    subst hq
    refine ⟨hlt, ?_⟩
    have := Nat.mod_lt k hzp
    rw [getElem!_pos z.cells _ this]
    exact Array.getElem?_eq_getElem this
  have adv := new_mem (es := i.size) (refs := []) (rows := List.replicate n (z.cells.toList.map .a)) (cs := (Array.range (n * i.size)).map (z.cells[· % z.cells.size]!)) (E := e) hk p1 (by simp) (fun q row hq => by
      rw [List.getElem?_replicate] at hq
      split at hq
      · injection hq with hq; subst hq; simpa using hsz
      · cases hq) (fun q row j y hq hj => by
      rw [List.getElem?_replicate] at hq
      split at hq
      · next hql =>
        injection hq with hq
        subst hq
        simp only [List.getElem?_map, Option.map_eq_some_iff, Array.getElem?_toList] at hj
        obtain ⟨u, hu', rfl⟩ := hj
        have hjl : j < i.size := by rw [← hsz]; exact (Array.getElem?_eq_some_iff.1 hu').1
        have h2 : (q + 1) * i.size ≤ n * i.size := Nat.mul_le_mul_right _ hql
        rw [Nat.add_mul] at h2
        have hlt : q * i.size + j < ((Array.range (n * i.size)).map (z.cells[· % z.cells.size]!)).size := by simp; omega
        have hg := Array.getElem?_eq_getElem hlt
        obtain ⟨_, hb⟩ := base _ _ hg
        have hmod : (q * i.size + j) % z.cells.size = j := by rw [hsz, Nat.mul_comm q, Nat.mul_add_mod, Nat.mod_eq_of_lt hjl]
        rw [hmod] at hb
        rw [hu'] at hb
        injection hb with hb
        exact ⟨u, hg.trans (congrArg some hb.symm), hone' _ _ hu', .a⟩
      · cases hq)
  refine upon_value (s := Instr.makeSlice t (a.eval x) (a.eval x)) (by obtain ⟨dst, op, ty, pos, af, gu⟩ := o; simp only at ho; subst ho; rfl) (v := .slice (some ⟨w.heap.size, 0, none⟩) n n) (w' := { w with heap := w.heap.push (.cells ((Array.range (n * i.size)).map (z.cells[· % z.cells.size]!)) e) }) ?_
    ⟨_, _, ⟨by rw [put_hp]; exact adv, (hR.adv adv).put hd ?_, by rw [put_hp]; simp⟩, p5⟩
  · have hw : IntKind.i64.wrap (n : Int) = n := wrap64' (by omega) (by omega)
    rw [ev]
    have has : ∀ v : World, (asInt (Value.int IntKind.i64 (n : Int))).run P v = .ok (n : Int) v := fun v => by simp [asInt, asIntOf]
    have ht1 : decide ((n : Int) < 0) = false := by simp
    have ht2 : decide ((i.bytes : Int) * (n : Int) > 2 ^ 48) = false := by
      rw [← Int.natCast_mul, Nat.mul_comm]; simp; omega
    have ht3 : decide ((n : Int) > (n : Int)) = false := by simp
    simp only [Instr.makeSlice, Sem.run_bind, run_underlying' hu, Result.andThen_ok, has, Sem.run_pure, run_typeInfo' hi, hw, ht1, ht2, ht3, Bool.or_false, Bool.false_eq_true, if_false, run_askRoom, run_sizeOf' hi, Int.toNat_natCast]
    by_cases h0 : n * i.size = 0
    · rw [if_pos h0]
      have e0 : (Array.range (n * i.size)).map (((#[] : Array Value))[· % ((#[] : Array Value)).size]!) = (Array.range (n * i.size)).map (z.cells[· % z.cells.size]!) := by
        simp [h0]
      simp only [Sem.run_bind, Result.andThen_ok, Sem.run_pure, e0, newRow, run_newObj]
    · rw [if_neg h0]
      simp only [Sem.run_bind, run_zeroValue' hi hz, Result.andThen_ok, Sem.run_pure, newRow, run_newObj]
  · have := fresh_own (es := i.size) (refs := []) (b := w.heap.size) p1 (hp := w.heap.push (.cells ((Array.range (n * i.size)).map (z.cells[· % z.cells.size]!)) e)) (F := F) (β := β) (rows := List.replicate n (z.cells.toList.map .a)) (n := n) (by simp)
    simpa using this
end
end Go.Abs

/- All operations; regions; code. -/
namespace Go.Abs
set_option linter.unusedVariables false

def I.ghost : I → Bool
  | .frz _ | .nilv .. | .nilo .. | .keep _ | .wk => true
  | _ => false

section
variable {P : Program} {w : World} {β : Nat → Hd} {F : Nat → Prop} {N : Nat} {st : St} {a : Act}

theorem gt_keep (l : Sl) (u : Nat) : ∀ ts : List Nat, gt (keepS l ts) u = gt l u ∨ gt (keepS l ts) u = .any := by
  intro ts
  induction ts with
  | nil => exact .inr rfl
  | cons t ts ih =>
    simp only [keepS, gt_up]
    split
    · next h => subst h; exact .inl rfl
    · exact ih

/-- A slot is told otherwise. -/
theorem Rel.slot {t : Nat} {x : V} (hR : Rel w β F N st a) (h : RV (cx w.heap st.hp β F) (a.tmps.getD t undef) x) : Rel w β F N { st with sl := up st.sl t x } a :=
  ⟨hR.hok, fun u => by
    simp only [gt_up]
    split
    · next e => subst e; exact h
    · exact hR.sl u, hR.df, hR.sz⟩

theorem sound_ghost {i : I} (hg : i.ghost = true) (hR : Rel w β F N st a) {k : St → Prop} (h : i.vc P k st) :
    ∃ β' st', (Adv F w st.hp β w st'.hp β' ∧ Rel w β' F N st' a ∧ st.hp.length ≤ st'.hp.length) ∧ k st' := by
  have hk := hR.hok
  have refl : Adv F w st.hp β w st.hp β := ⟨hk, .refl _, .refl _ _⟩
  cases i with
  | frz t =>
    simp only [I.vc] at h
    split at h
    · exact ⟨β, st, ⟨refl, hR, Nat.le_refl _⟩, h⟩
    · obtain ⟨h1, h2⟩ := h
      have adv := adv_fzL (F := F) (w := w) (β := β) (gt st.sl t).ids hk
      have hz := RV.fz (l := (gt st.sl t).ids) hk (hR.sl t) rfl h1 fun i hi => hi
      refine ⟨β, _, ⟨adv, (hR.adv adv).slot hz.up, ?_⟩, h2⟩
      show st.hp.length ≤ (st.hp.fz _).length
      have key : ∀ (l : List Nat) (H : Heap), (H.fz l).length = H.length := by
        intro l; induction l with
        | nil => intro H; rfl
        | cons i l ih => intro H; simp [Heap.fz, ih]
      rw [key]; exact Nat.le_refl _
  | nilv t es =>
    simp only [I.vc] at h
    refine ⟨β, { st with sl := up st.sl t (if (gt st.sl t).nilSl then .view es [] else gt st.sl t) }, ⟨refl, hR.slot ?_, Nat.le_refl _⟩, h⟩
    split
    · next hn =>
      have hx := hR.sl t
      generalize gt st.sl t = x at hx hn
      unfold V.nilSl at hn
      split at hn
      · rw [hx.of_a]; exact .nilv
      · cases hn
    · exact hR.sl t
  | nilo t es r =>
    simp only [I.vc] at h
    split at h
    · next e =>
      obtain ⟨h1, h2⟩ := h
      have adv := new_nil (es := es) (refs := []) (F := F) hk h1
      refine ⟨_, _, ⟨adv, (hR.adv adv).slot ?_, by simp⟩, h2⟩
      have hx := hR.sl t
      rw [e] at hx
      rw [hx.of_a]
      exact nil_own h1
    · exact ⟨β, st, ⟨refl, hR, Nat.le_refl _⟩, h⟩
  | keep ts =>
    simp only [I.vc] at h
    refine ⟨β, { st with sl := keepS st.sl ts }, ⟨refl, ⟨hR.hok, fun u => ?_, hR.df, hR.sz⟩, Nat.le_refl _⟩, h⟩
    rcases gt_keep st.sl u ts with e | e
    · show RV _ _ (gt (keepS st.sl ts) u)
      rw [e]; exact hR.sl u
    · show RV _ _ (gt (keepS st.sl ts) u)
      rw [e]; exact .any
  | wk =>
    obtain ⟨st', ⟨h1, h2, h3, h4⟩, h5⟩ := h
    obtain ⟨β', g1, g2⟩ := h4 w β F N a hR
    exact ⟨β', st', ⟨g1, g2, h3⟩, h5⟩
  | _ => cases hg

theorem run_callFunc {f : FuncId} {args : Array Value} (h : okFunc P f = true) : (callFunc f args).run P w = .ok (.enter f args) w := by
  unfold okFunc at h
  cases hf : P.funcs[f]? with
  | none => rw [hf] at h; cases h
  | some fn =>
    rw [hf] at h
    simp only [Bool.and_eq_true, bne_iff_ne, ne_eq] at h
    obtain ⟨h1, h2⟩ := h
    have h3 : fn.body.isNone = false := by cases hb : fn.body <;> simp_all
    simp only [callFunc, Sem.run_bind, run_program, Result.andThen_ok, hf]
    rw [if_neg (by simpa using h1)]
    simp only [h3, Bool.false_eq_true, if_false, Sem.run_pure]

theorem upon_enter' {o : Oper} {f : FuncId} {args : Array Value} {next : Act → World → Prop} {Q : Exit → Act → World → Prop} {K : Ending → World → Prop}
    (hs : (execOp a.eval o).run P w = .ok (.enter f args) w) (h : Calls P f args w K) (hn : ∀ e w', K e w' → ∃ v, e = .returned v ∧ next (a.put o.dst v) w') : o.wp P a w next Q := by
  unfold Oper.wp
  rw [hs]
  refine h.mono fun e w' hK => ?_
  obtain ⟨v, rfl, h2⟩ := hn e w' hK
  exact h2

theorem call_args {c : Call} {fs cs : Array Value} {xs ys : List V} (hR : Rel w β F N st a) (h1 : RVs (cx w.heap st.hp β F) fs xs) (h2 : RVs (cx w.heap st.hp β F) cs ys) :
    RVs (cx w.heap st.hp β F) (fs ++ c.args.map a.eval ++ cs) (xs ++ c.args.toList.map st.ev ++ ys) := by
  refine ⟨by simp [h1.1, h2.1], fun i v x hv hx => ?_⟩
  rw [Array.append_assoc, Array.getElem?_append] at hv
  rw [List.append_assoc, List.getElem?_append] at hx
  rw [← h1.1] at hx
  split at hv
  · next hlt => rw [if_pos hlt] at hx; exact h1.2 i v x hv hx
  · next hge =>
    rw [if_neg hge] at hx
    rw [Array.getElem?_append] at hv
    rw [List.getElem?_append] at hx
    simp only [Array.size_map, List.length_map, Array.length_toList] at hv hx
    split at hv
    · next hlt =>
      rw [if_pos hlt] at hx
      simp only [Array.getElem?_map, List.getElem?_map, Array.getElem?_toList, Option.map_eq_some_iff] at hv hx
      obtain ⟨p, hp, rfl⟩ := hv
      obtain ⟨q, hq, rfl⟩ := hx
      rw [hp] at hq; injection hq with hq; subst hq
      exact hR.ev p
    · next hge2 =>
      rw [if_neg hge2] at hx
      exact h2.2 _ v x hv hx

theorem sound_call {o : Oper} {f : FuncId} {c : Call} {fv : Operand} {fs cs : Array Value} {xs ys : List V} (hR : Rel w β F N st a) (ho : o.op = .call c) (hcal : c.callee = .value fv) (hf : a.eval fv = .func (.func f) fs cs)
    (hok : okFunc P f = true) (h1 : RVs (cx w.heap st.hp β F) fs xs) (h2 : RVs (cx w.heap st.hp β F) cs ys) (hd : ∀ t, o.dst = some t → t < N) {k : St → Prop}
    (hids : V.idsL (xs ++ c.args.toList.map st.ev ++ ys) = []) (h : DP P f (xs ++ c.args.toList.map st.ev ++ ys) fun r => k (st.put o.dst r)) (Q : Exit → Act → World → Prop) :
    o.wp P a w (Then P F N w st β k) Q := by
  have hs : (execOp a.eval o).run P w = .ok (.enter f (fs ++ c.args.map a.eval ++ cs)) w := by
    obtain ⟨dst, op, ty, pos, af, gu⟩ := o
    simp only at ho
    subst ho
    simp only [execOp, resolve, hcal, hf, Deferred.ofValue, Sem.run_bind, Sem.run_pure, Result.andThen_ok, invoke, run_callFunc hok]
  have hargs := call_args (c := c) hR (xs := xs) (ys := ys) h1 h2
  refine upon_enter' hs (sound_DP hR hargs hids h) fun e w' hres => ?_
  obtain ⟨r, x, rfl, adv, hr, hK⟩ := hres
  exact ⟨r, rfl, β, _, ⟨by rw [put_hp]; exact adv, (hR.adv adv).put hd hr, by rw [put_hp]; exact Nat.le_refl _⟩, hK⟩

theorem RVs.nil (c : Cx) : RVs c #[] [] := ⟨rfl, fun i v x h => by simp at h⟩

set_option maxHeartbeats 800000 in
/-- Every operation. -/
theorem I.sound {i : I} {o : Oper} {r : Nat} {ap : List Nat} (hR : Rel w β F N st a) (hc : cmpI P o r ap = some i) (hd : ∀ t, o.dst = some t → t < N) (hst : (∃ t x v, o.op = .store t x v) → o.dst = none) {k : St → Prop} (h : i.vc P k st) (Q : Exit → Act → World → Prop) :
    o.wp P a w (Then P F N w st β k) Q := by
  have light : ∀ {l}, cmpL P o.op = some l → i = .lt o.dst l → o.wp P a w (Then P F N w st β k) Q := fun hl e => by subst e; exact run_isLight hR hl hd h Q
  unfold cmpI at hc
  split at hc
  · next t x v ho =>
    simp only [Option.bind_eq_some_iff, Option.some.injEq] at hc
    obtain ⟨inf, hi, rfl⟩ := hc
    exact sound_store hR ho hi (hst ⟨_, _, _, ho⟩) h Q
  · next t ho =>
    simp only [Option.bind_eq_some_iff] at hc
    obtain ⟨inf, hi, z, hz, hc⟩ := hc
    split at hc
    · next hzz =>
      injection hc with hc; subst hc
      exact sound_alloc hR ho hi hz hzz.1 hzz.2 hd h Q
    · cases hc
  · next t x ho =>
    simp only [Option.bind_eq_some_iff, Option.some.injEq] at hc
    obtain ⟨inf, hi, rfl⟩ := hc
    exact sound_box hR ho hi hd h Q
  · next t len parts ho =>
    unfold cmpBsl at hc
    split at hc
    · next e hu =>
      simp only [Option.bind_eq_some_iff] at hc
      obtain ⟨inf, hi, z, hz, hc⟩ := hc
      split at hc
      · next hzz =>
        injection hc with hc; subst hc
        exact sound_bsl hR ho hu hi hz hzz.1 hzz.2.1 hzz.2.2.1 hzz.2.2.2 hd h Q
      · cases hc
    · cases hc
  · next c ho =>
    split at hc
    · next f hcal =>
      split at hc
      · next hok =>
        injection hc with hc; subst hc
        obtain ⟨h1, h2⟩ := h
        have := sound_call (xs := []) (ys := []) (fv := .func f) (fs := #[]) (cs := #[]) hR ho hcal rfl hok (.nil _) (.nil _) hd (by simpa using h1) (by simpa using h2) Q
        exact this
      · cases hc
    · next fv hne hcal =>
      injection hc with hc; subst hc
      simp only [I.vc] at h
      split at h
      · next f fs cs e =>
        obtain ⟨h0, h1, h2⟩ := h
        have hx := hR.ev fv
        rw [e] at hx
        generalize hv : a.eval fv = v at hx
        cases hx with
        | fn g1 g2 g3 g4 => exact sound_call hR ho hcal hv h0 ⟨g1, g3⟩ ⟨g2, g4⟩ hd h1 h2 Q
      · exact h.elim
    · next b hcal =>
      split at hc
      · next hb =>
        obtain rfl : b = .append := by cases b <;> simp_all [isApp]
        obtain ⟨callee, args, ats⟩ := c
        simp only at hcal hc
        unfold cmpApp at hc
        simp only [Option.bind_eq_some_iff] at hc
        obtain ⟨t, h0, t2, h1, x, ha0, y, ha1, hc⟩ := hc
        split at hc
        · next e e2 hu hu2 =>
          simp only [Option.bind_eq_some_iff] at hc
          obtain ⟨inf, hi, z, hz, hc⟩ := hc
          split at hc
          · next hzz =>
            injection hc with hc; subst hc
            subst hcal
            exact sound_app hR ho h0 h1 ha0 ha1 hu hu2 hi hz hzz.1 hzz.2.1 hzz.2.2 hd h Q
          · cases hc
        · cases hc
      split at hc
      · next hb =>
        obtain rfl : b = .clear := by cases b <;> simp_all [isClr]
        obtain ⟨callee, args, ats⟩ := c
        simp only at hcal hc
        unfold cmpClr at hc
        simp only [Option.bind_eq_some_iff] at hc
        obtain ⟨t, h0, x, ha0, hc⟩ := hc
        split at hc
        · next e hu =>
          simp only [Option.bind_eq_some_iff] at hc
          obtain ⟨inf, hi, z, hz, hc⟩ := hc
          split at hc
          · next hzz =>
            injection hc with hc; subst hc
            subst hcal
            exact sound_clr hR ho h0 ha0 hu hi hz hzz.1 hzz.2.1 hzz.2.2 hd h Q
          · cases hc
        · cases hc
      split at hc
      · next hb =>
        obtain rfl : b = .copy := by cases b <;> simp_all [isCpy]
        obtain ⟨callee, args, ats⟩ := c
        simp only at hcal hc
        unfold cmpCpy at hc
        simp only [Option.bind_eq_some_iff] at hc
        obtain ⟨t, h0, x, ha0, y, ha1, hc⟩ := hc
        split at hc
        · next e hu =>
          simp only [Option.bind_eq_some_iff] at hc
          obtain ⟨inf, hi, hc⟩ := hc
          split at hc
          · next hzz =>
            injection hc with hc; subst hc
            subst hcal
            exact sound_cpy hR ho h0 ha0 ha1 hu hi hzz hd h Q
          · cases hc
        · cases hc
      · simp only [Option.map_eq_some_iff] at hc
        obtain ⟨l, hl, rfl⟩ := hc
        exact light hl rfl
    · cases hc
  · next t ho => cases hc; exact sound_mkm hR ho hd h Q
  · next t x y ho =>
    unfold cmpMks at hc
    split at hc
    · next e hu =>
      simp only [Option.bind_eq_some_iff] at hc
      obtain ⟨inf, hi, z, hz, hc⟩ := hc
      split at hc
      · next hzz =>
        injection hc with hc; subst hc
        obtain ⟨z1, z2, z3, hxy, z4⟩ := hzz
        obtain rfl := sameT_eq hxy
        exact sound_mks hR ho hu hi hz z1 z2 z3 z4 hd h Q
      · cases hc
    · cases hc
  · next x ho => cases hc; exact h.elim
  · next t m kx v ho =>
    unfold cmpMup at hc
    split at hc
    · next kt et hu =>
      split at hc
      · next kd hku =>
        split at hc
        · next hdn => cases hc; exact sound_mup hR (.inl ho) hu hku hdn h Q
        · cases hc
      · cases hc
    · cases hc
  · next t m kx v ho =>
    unfold cmpMup at hc
    split at hc
    · next kt et hu =>
      split at hc
      · next kd hku =>
        split at hc
        · next hdn => cases hc; exact sound_mup hR (.inr ho) hu hku hdn h Q
        · cases hc
      · cases hc
    · cases hc
  · next t x ho =>
    unfold cmpRng at hc
    split at hc
    · next hu => cases hc; exact sound_rng hR ho hu hd h Q
    · cases hc
  · next it str ho =>
    split at hc
    · next hs => cases hc; subst hs; exact sound_nxt hR ho hd h Q
    · cases hc
  · simp only [Option.map_eq_some_iff] at hc
    obtain ⟨l, hl, rfl⟩ := hc
    exact light hl rfl

theorem addAll_mem {i : Nat} : ∀ (is l : List Nat), i ∈ addAll l is ↔ i ∈ l ∨ i ∈ is := by
  intro is
  induction is with
  | nil => intro l; simp [addAll]
  | cons k is ih =>
    intro l
    simp only [addAll, ih]
    split
    · next h =>
      simp only [List.mem_cons]
      constructor
      · rintro (h' | h')
        · exact .inl h'
        · exact .inr (.inr h')
      · rintro (h' | rfl | h')
        · exact .inl h'
        · exact .inl h
        · exact .inr h'
    · simp only [List.mem_append, List.mem_cons, List.not_mem_nil, or_false, or_assoc]

theorem clos_mem {H : Heap} {i : Nat} : ∀ (n : Nat) (l : List Nat), i ∈ l → i ∈ clos H n l := by
  intro n
  induction n with
  | zero => intro l h; exact h
  | succ n ih => intro l h; exact ih _ ((addAll_mem _ _).2 (.inl h))

theorem RVs.get {c : Cx} {vs : Array Value} {xs : List V} (h : RVs c vs xs) {i : Nat} {x : V} (hx : xs[i]? = some x) : ∃ v, vs[i]? = some v ∧ RV c v x := by
  have hlt : i < vs.size := by rw [h.1]; exact lt_of_get hx
  exact ⟨vs[i], Array.getElem?_eq_getElem hlt, h.2 i _ _ (Array.getElem?_eq_getElem hlt) hx⟩

theorem sound_DCm {f : FuncId} {vs : Array Value} {xs : List V} {sel : List Nat} {H : Heap} {Q : V → Heap → Prop} (hk : HOK w.heap H β F) (hv : RVs (cx w.heap H β F) vs xs) (ok : OkSel H sel) (hs : ∀ i ∈ V.idsL xs, i ∈ sel)
    (h : DC P f (V.renL (idx sel) xs) (sub H sel) Q) :
    Calls P f vs w fun e w' => ∃ r x H' β', e = .returned r ∧ Adv F w H β w' (merge H sel H') β' ∧ RV (cx w'.heap (merge H sel H') β' F) r (x.ren (back sel H.length)) ∧ Q x H' := by
  have hargs : RVs (cx w.heap (sub H sel) (βsub β sel) (Fsub H β F sel)) vs (V.renL (idx sel) xs) := by
    refine ⟨by rw [renL_map, List.length_map]; exact hv.1, fun i v x h1 h2 => ?_⟩
    rw [renL_map, List.getElem?_map, Option.map_eq_some_iff] at h2
    obtain ⟨y, hy, rfl⟩ := h2
    have := (hv.2 i v y h1 hy).onlyOf sel fun k hk => hs k (idsL_mem hy hk)
    exact (this.ren (ren_sub ok fun i hi => hi)).up
  refine (h w (βsub β sel) (Fsub H β F sel) vs (sub_ok hk ok) hargs).mono fun e w' hres => ?_
  obtain ⟨r, x, H', β', rfl, adv, hr, hQ⟩ := hres
  have hl : sel.length ≤ H'.length := by
    refine Nat.le_of_not_lt fun hlt => ?_
    have hj : H'.length < sel.length := hlt
    have h1 : liveIn (sub H sel) H'.length := by
      have hm := getD_mem hj
      refine (liveIn_ren (sub_get ok hj)).2 ⟨H.getD (sel.getD H'.length 0) .dead, get_of_getD (ok.lt _ hm), ok.nres _ hm⟩
    obtain ⟨o, ho, _⟩ := adv.le.live _ h1
    have := lt_of_get ho
    omega
  obtain ⟨g1, g2⟩ := merge_adv hk ok hl adv
  exact ⟨r, x, H', _, rfl, g1, hr.ren g2, hQ⟩

theorem sound_callm {o : Oper} {c : Call} {fv : Operand} (hR : Rel w β F N st a) (ho : o.op = .call c) (hcal : c.callee = .value fv) (hd : ∀ t, o.dst = some t → t < N) {k : St → Prop}
    (h : (I.callm o.dst fv c.args.toList).vc P k st) (Q : Exit → Act → World → Prop) : o.wp P a w (Then P F N w st β k) Q := by
  simp only [I.vc] at h
  split at h
  · next f xs ys e =>
    obtain ⟨hok, hsel, hdc⟩ := h
    have hx := hR.ev fv
    rw [e] at hx
    generalize hv : a.eval fv = v at hx
    cases hx with
    | fn g1 g2 g3 g4 =>
      rename_i fs cs
      have hs : (execOp a.eval o).run P w = .ok (.enter f (fs ++ c.args.map a.eval ++ cs)) w := by
        obtain ⟨dst, op, ty, pos, af, gu⟩ := o
        simp only at ho
        subst ho
        simp only [execOp, resolve, hcal, hv, Deferred.ofValue, Sem.run_bind, Sem.run_pure, Result.andThen_ok, invoke, run_callFunc hok]
      have hargs := call_args (c := c) hR (xs := xs) (ys := ys) ⟨g1, g3⟩ ⟨g2, g4⟩
      refine upon_enter' hs (sound_DCm hR.hok hargs hsel (fun i hi => clos_mem _ _ ((addAll_mem _ _).2 (.inr hi))) hdc) fun e w' hres => ?_
      obtain ⟨r, x, H', β', rfl, adv, hr, hK⟩ := hres
      refine ⟨r, rfl, β', _, ⟨by rw [put_hp]; exact adv, (hR.adv adv).put hd hr, ?_⟩, hK⟩
      rw [put_hp]
      show st.hp.length ≤ (merge st.hp _ H').length
      simp only [merge, List.length_append, place_length]
      omega
  · exact h.elim

theorem sound_callb {o : Oper} {c : Call} {fv : Operand} (hR : Rel w β F N st a) (ho : o.op = .call c) (hcal : c.callee = .value fv) (hd : ∀ t, o.dst = some t → t < N) {k : St → Prop}
    (h : (I.callb o.dst fv c.args.toList).vc P k st) (Q : Exit → Act → World → Prop) : o.wp P a w (Then P F N w st β k) Q := by
  simp only [I.vc] at h
  split at h
  · next f xs ys e =>
    obtain ⟨hok, hids, hdp⟩ := h
    have hx := hR.ev fv
    rw [e] at hx
    generalize hv : a.eval fv = v at hx
    cases hx with
    | fn g1 g2 g3 g4 =>
      rename_i fs cs
      have hs : (execOp a.eval o).run P w = .ok (.enter f (fs ++ c.args.map a.eval ++ cs)) w := by
        obtain ⟨dst, op, ty, pos, af, gu⟩ := o
        simp only at ho
        subst ho
        simp only [execOp, resolve, hcal, hv, Deferred.ofValue, Sem.run_bind, Sem.run_pure, Result.andThen_ok, invoke, run_callFunc hok]
      have hargs := call_args (c := c) hR (xs := xs) (ys := ys) ⟨g1, g3⟩ ⟨g2, g4⟩
      refine upon_enter' hs (sound_DPb hR hargs hids hdp) fun e w' hres => ?_
      obtain ⟨r, x, rfl, adv, hr, hK⟩ := hres
      exact ⟨r, rfl, β, _, ⟨by rw [put_hp]; exact adv, (hR.adv adv).put hd hr, by rw [put_hp]; exact Nat.le_refl _⟩, hK⟩
  · exact h.elim

mutual
theorem ren_none {f : Nat → Nat} : ∀ (x : V), x.ids = [] → x.ren f = x
  | .any, _ | .a _, _ | .ref .., _ | .view .., _ | .mview _, _ | .nul _, _ => by simp [V.ren]
  | .ptr .., h | .own .., h | .mp _, h => by simp [V.ids] at h
  | .agg cs, h => by simp only [V.ren]; rw [renL_none cs (by simpa [V.ids] using h)]
  | .tup cs, h => by simp only [V.ren]; rw [renL_none cs (by simpa [V.ids] using h)]
  | .fn g fs cs, h => by
    have h : V.idsL fs ++ V.idsL cs = [] := by simpa [V.ids] using h
    simp only [V.ren]
    rw [renL_none fs (List.append_eq_nil_iff.1 h).1, renL_none cs (List.append_eq_nil_iff.1 h).2]
  | .ifc t x, h => by simp only [V.ren]; rw [ren_none x (by simpa [V.ids] using h)]
theorem renL_none {f : Nat → Nat} : ∀ (l : List V), V.idsL l = [] → V.renL f l = l
  | [], _ => rfl
  | x :: l, h => by
    have h : x.ids ++ V.idsL l = [] := by simpa [V.idsL] using h
    simp only [V.renL]
    rw [ren_none x (List.append_eq_nil_iff.1 h).1, renL_none l (List.append_eq_nil_iff.1 h).2]
end

theorem sound_callo {o : Oper} {c : Call} {fv : Operand} (hR : Rel w β F N st a) (ho : o.op = .call c) (hcal : c.callee = .value fv) (hd : ∀ t, o.dst = some t → t < N) {k : St → Prop}
    (h : (I.callo o.dst fv c.args.toList).vc P k st) (Q : Exit → Act → World → Prop) : o.wp P a w (Then P F N w st β k) Q := by
  refine sound_callm hR ho hcal hd (k := k) ?_ Q
  simp only [I.vc] at h ⊢
  split at h
  · next f fs cs e =>
    obtain ⟨h1, h2, h3⟩ := h
    have hc : ∀ n, clos st.hp n [] = [] := by
      intro n
      induction n with
      | zero => rfl
      | succ n ih => simpa [clos, addAll] using ih
    rw [h2]
    simp only [addAll]
    rw [hc]
    refine ⟨h1, ⟨by simp, by simp, by simp, by simp⟩, ?_⟩
    rw [renL_none _ h2]
    have hb : back [] st.hp.length = fun j => st.hp.length + j := by funext j; simp [back]
    refine DC.mono (show DC P f _ (sub st.hp []) _ from h3) fun r H' hr => ?_
    simp only [merge, List.length_nil, List.take_zero, List.map_nil, place, List.drop_zero, hb]
    exact hr
  · exact h.elim

theorem I.soundM {i : I} {o : Oper} {r : Nat} {ap : List Nat} (hR : Rel w β F N st a) (hc : cmpI P o r ap = some i ∨ ∃ b, cmpM P b o = some i) (hd : ∀ t, o.dst = some t → t < N) (hst : (∃ t x v, o.op = .store t x v) → o.dst = none) {k : St → Prop} (h : i.vc P k st) (Q : Exit → Act → World → Prop) :
    o.wp P a w (Then P F N w st β k) Q := by
  rcases hc with hc | hc
  · exact I.sound hR hc hd hst h Q
  · obtain ⟨b, hc⟩ := hc
    unfold cmpM at hc
    split at hc
    · next t len parts ho =>
      unfold cmpBsv at hc
      split at hc
      · next e hu =>
        simp only [Option.bind_eq_some_iff] at hc
        obtain ⟨inf, hi, z, hz, hc⟩ := hc
        split at hc
        · next hzz =>
          injection hc with hc; subst hc
          exact sound_bsv hR ho hu hi hz hzz.1 hzz.2.1 hzz.2.2.1 hzz.2.2.2 hd h Q
        · cases hc
      · cases hc
    · next c ho =>
      split at hc
      · next fv hcal =>
        split at hc
        · cases hc; exact sound_callm hR ho hcal hd h Q
        · cases hc; exact sound_callb hR ho hcal hd h Q
        · cases hc; exact sound_callo hR ho hcal hd h Q
        · cases hc
          refine sound_callm hR ho hcal hd (k := k) ?_ Q
          simp only [I.vc] at h ⊢
          split at h
          · exact ⟨h.1, h.2.1, h.2.2.2⟩
          · exact h.elim
      · cases hc
    · cases hc

end
end Go.Abs

/- Regions, in the order of the text. -/
namespace Go.Abs
set_option linter.unusedVariables false

inductive It where
  | g (i : I)                                                  -- of ours
  | o (j : Nat) (i : I)                                        -- operation j
  | gd (j s : Nat) (want : Bool) (d : Option Nat) (i : I)      -- operation j, if slot s is so
  deriving Inhabited

def vcIts (P : Program) : List It → (St → Prop) → St → Prop
  | [], k, st => k st
  | .g i :: l, k, st => i.vc P (vcIts P l k) st
  | .o _ i :: l, k, st => i.vc P (vcIts P l k) st
  | .gd _ s want d i :: l, k, st =>
    match gt st.sl s with
    | .a (.bool b) => (b = want → i.vc P (vcIts P l k) { st with sl := up st.sl s (.bool want) }) ∧ (b = !want → vcIts P l k ({ st with sl := up st.sl s (.bool !want) }.put d (.a undef)))
    | .a (.tuple _) => vcIts P l k (st.put d (.a undef))
    | _ => False

/-- How many operations ahead make memory. -/
def makes : Op → Bool
  | .alloc _ | .box .. | .buildSlice .. | .makeSlice .. | .makeMap .. | .range .. => true
  | .call c => match c.callee with
    | .builtin b => isApp b
    | _ => false
  | _ => false

def resOf (ops : Array Oper) (j : Nat) : Nat := ((ops.toList.take j).filter fun o => makes o.op).length

def isStore : Op → Bool
  | .store .. => true
  | _ => false

def dstOk (N : Nat) (o : Oper) : Bool :=
  match o.dst with
  | some d => decide (d < N) && !isStore o.op
  | none => true

def MatchIts (P : Program) (N : Nat) (ops : Array Oper) : List It → List Nat → Prop
  | [], [] => True
  | .g i :: l, js => i.ghost = true ∧ MatchIts P N ops l js
  | .o j i :: l, j' :: js => j = j' ∧ (∃ o ap, ops[j]? = some o ∧ o.guard = none ∧ (cmpI P o (resOf ops j) ap = some i ∨ ∃ b, cmpM P b o = some i) ∧ dstOk N o = true) ∧ MatchIts P N ops l js
  | .gd j s want d i :: l, j' :: js => j = j' ∧ (∃ o ap gj, ops[j]? = some o ∧ o.guard = some (gj, want) ∧ (ops[gj]?).bind (·.dst) = some s ∧ s < N ∧ o.dst = d ∧ (cmpI P o (resOf ops j) ap = some i ∨ ∃ b, cmpM P b o = some i) ∧ dstOk N o = true) ∧ MatchIts P N ops l js
  | _, _ => False

section
variable {P : Program} {N : Nat} {F : Nat → Prop}

theorem dstOk_lt {o : Oper} (h : dstOk N o = true) : ∀ t, o.dst = some t → t < N := by
  intro t e
  unfold dstOk at h
  rw [e] at h
  simp at h
  exact h.1

theorem dstOk_st {o : Oper} (h : dstOk N o = true) : (∃ t x v, o.op = .store t x v) → o.dst = none := by
  rintro ⟨t, x, v, e⟩
  unfold dstOk at h
  cases hd : o.dst with
  | none => rfl
  | some d => rw [hd, e] at h; simp [isStore] at h

theorem yielded_bool {ops : Array Oper} {w : World} {β : Nat → Hd} {st : St} {a : Act} {gj s : Nat} (hR : Rel w β F N st a) (hs : (ops[gj]?).bind (·.dst) = some s) (hN : s < N) :
    (∀ b, gt st.sl s = .a (.bool b) → yielded ops a.tmps gj = some b) ∧ (∀ t, gt st.sl s = .a (.tuple t) → yielded ops a.tmps gj = none) := by
  have hx := hR.sl s
  have h0 : a.tmps[s]? = some (a.tmps.getD s undef) := by
    simp [Array.getD, hR.sz, hN]
  constructor
  · intro b e
    rw [e] at hx
    have := hx.of_a
    rw [this] at h0
    unfold yielded
    rw [hs]
    simp [h0]
  · intro t e
    rw [e] at hx
    have := hx.of_a
    rw [this] at h0
    unfold yielded
    rw [hs]
    simp [h0]

theorem its_sound {ops : Array Oper} {Q : Exit → Act → World → Prop} : ∀ (l : List It) (js : List Nat), MatchIts P N ops l js → ∀ (w : World) (β : Nat → Hd) (st : St) (a : Act) (k : St → Prop), Rel w β F N st a → vcIts P l k st →
    (∀ a' w' β' st', Adv F w st.hp β w' st'.hp β' → Rel w' β' F N st' a' → st.hp.length ≤ st'.hp.length → k st' → Q .normal a' w') → wpOps P ops Q js a w := by
  intro l
  induction l with
  | nil =>
    intro js hm w β st a k hR h hQ
    cases js with
    | nil => exact hQ a w β st ⟨hR.hok, .refl _, .refl _ _⟩ hR (Nat.le_refl _) h
    | cons j js => exact hm.elim
  | cons it l ih =>
    intro js hm w β st a k hR h hQ
    cases it with
    | g i =>
      obtain ⟨hg, hm⟩ := hm
      obtain ⟨β', st', ⟨adv, hR', hl⟩, hk⟩ := sound_ghost hg hR (k := vcIts P l k) h
      exact ih js hm w β' st' a k hR' hk fun a' w' β'' st'' adv' hR'' hl' hk' => hQ a' w' β'' st'' (adv.trans adv') hR'' (Nat.le_trans hl hl') hk'
    | o j i =>
      cases js with
      | nil => exact hm.elim
      | cons j' js =>
        obtain ⟨rfl, ⟨o, ap, ho, hgu, hc, hd⟩, hm⟩ := hm
        simp only [wpOps, ho]
        rw [if_pos (by simp [Region.wanted, hgu])]
        refine .inl ?_
        have := I.soundM hR hc (dstOk_lt hd) (dstOk_st hd) (k := vcIts P l k) h Q
        refine Oper.wp_mono (fun a' w' hT => ?_) this
        obtain ⟨β', st', ⟨adv, hR', hl⟩, hk⟩ := hT
        exact ih js hm w' β' st' a' k hR' hk fun a'' w'' β'' st'' adv' hR'' hl' hk' => hQ a'' w'' β'' st'' (adv.trans adv') hR'' (Nat.le_trans hl hl') hk'
    | gd j s want d i =>
      cases js with
      | nil => exact hm.elim
      | cons j' js =>
        obtain ⟨rfl, ⟨o, ap, gj, ho, hgu, hs, hN, hdst, hc, hd⟩, hm⟩ := hm
        obtain ⟨y1, y2⟩ := yielded_bool hR hs hN
        simp only [wpOps, ho]
        simp only [vcIts] at h
        split at h
        · next b e =>
          obtain ⟨h1, h2⟩ := h
          have hy := y1 b e
          have hR2 : Rel w β F N { st with sl := up st.sl s (.bool b) } a := hR.slot (by have := hR.sl s; rw [e] at this; exact this)
          by_cases hb : b = want
          · subst hb
            rw [if_pos (by simp [Region.wanted, hgu, hy])]
            refine .inl ?_
            have := I.soundM hR2 hc (dstOk_lt hd) (dstOk_st hd) (k := vcIts P l k) (h1 rfl) Q
            refine Oper.wp_mono (fun a' w' hT => ?_) this
            obtain ⟨β', st', ⟨adv, hR', hl⟩, hk⟩ := hT
            exact ih js hm w' β' st' a' k hR' hk fun a'' w'' β'' st'' adv' hR'' hl' hk' => hQ a'' w'' β'' st'' (adv.trans adv') hR'' (Nat.le_trans hl hl') hk'
          · have hb' : b = !want := by cases b <;> cases want <;> simp_all
            rw [if_neg (by simp [Region.wanted, hgu, hy, hb])]
            subst hb'
            have hR3 := hR2.put (dstOk_lt hd) (v := undef) (x := .a undef) .a
            rw [hdst] at hR3 ⊢
            exact ih js hm w β _ _ k hR3 (h2 rfl) fun a'' w'' β'' st'' adv' hR'' hl' hk' => hQ a'' w'' β'' st'' (by rw [put_hp] at adv'; exact adv') hR'' (by rw [put_hp] at hl'; exact hl') hk'
        · next t e =>
          have hy := y2 t e
          rw [if_neg (by simp [Region.wanted, hgu, hy])]
          have hR3 := hR.put (dstOk_lt hd) (v := undef) (x := .a undef) .a
          rw [hdst] at hR3 ⊢
          exact ih js hm w β _ _ k hR3 h fun a'' w'' β'' st'' adv' hR'' hl' hk' => hQ a'' w'' β'' st'' (by rw [put_hp] at adv'; exact adv') hR'' (by rw [put_hp] at hl'; exact hl') hk'
        · exact h.elim

end
end Go.Abs

/- Regions whose order Go leaves open. -/
namespace Go.Abs
set_option linter.unusedVariables false

def L.opds : L → List Operand
  | .mov x | .un _ x | .ld _ _ x | .nilc x | .fad x _ | .fld _ _ _ x | .ext x _ | .lenStr x | .lenSl x | .conv _ x | .mkif _ x | .eqN _ x | .lenMp x | .cvBS x | .eqZ _ _ x | .slZ _ x => [x]
  | .pick c a b => [c, a, b]
  | .bin _ x y | .eqB _ x y | .lkp _ _ _ x y | .eqD _ _ x y => [x, y]
  | .ixS _ x i | .ixA _ _ x i | .ixStr x i | .ixV _ _ _ x i => [x, i]
  | .slM _ x h m => [x, h, m]
  | .lenArr _ => []
  | .build _ parts => parts.map (·.2.2)
  | .mkfn _ first cap => first ++ cap
  | .slStr x lo hi | .slSl _ x lo hi => x :: (lo.toList ++ hi.toList)
  | .mxm _ xs => xs

/-- The operands by which it looks into memory. -/
def L.hops : L → List Operand
  | .slZ _ x | .ld _ _ x | .nilc x | .fad x _ | .ixS _ x _ | .ixA _ _ x _ | .lenSl x | .slSl _ x _ _ | .eqN _ x | .lenMp x | .cvBS x | .eqZ _ _ x | .lkp _ _ _ x _ => [x]
  | .build _ parts => parts.map (·.2.2)
  | _ => []
def L.isLd : L → Bool
  | .ld .. | .lenMp _ | .cvBS _ | .lkp .. => true
  | _ => false

/-- What may be read in the one heap may be read in the other, and is the same: lengths but of the objects bl, what they hold but of the objects bc. -/
structure hle (bl bc : Nat → Prop) (H H' : Heap) : Prop where
  mem : ∀ id, (H.getD id .dead).isMem = true → ¬ bl id → (H'.getD id .dead).isMem = true
  len : ∀ id, (H.getD id .dead).isMem = true → ¬ bl id → (H'.getD id .dead).rows.length = (H.getD id .dead).rows.length
  row : ∀ id, (H.getD id .dead).isMem = true → ¬ bl id → ¬ bc id → (H'.getD id .dead).rows = (H.getD id .dead).rows
  map : ∀ id, (H.getD id .dead).isMap = true → ¬ bl id → (H'.getD id .dead).isMap = true
  ents : ∀ id, (H.getD id .dead).isMap = true → ¬ bl id → ¬ bc id → (H'.getD id .dead).ents = (H.getD id .dead).ents
  tre : ∀ id, (H.getD id .dead).isTree = true → ¬ bl id → (H'.getD id .dead).isTree = true ∧ (H'.getD id .dead).trows = (H.getD id .dead).trows

theorem hle.refl (bl bc : Nat → Prop) (H : Heap) : hle bl bc H H := ⟨fun _ h _ => h, fun _ _ _ => rfl, fun _ _ _ _ => rfl, fun _ h _ => h, fun _ _ _ _ => rfl, fun _ h _ => ⟨h, rfl⟩⟩

section
variable {H H' : Heap} {bl bc : Nat → Prop}

theorem okAt_le (h : hle bl bc H H') {x : V} (hx : ∀ k, x.oid = some k → ¬ bl k) (ho : okAt H x) : okAt H' x := by
  cases x <;> first | exact ho.elim | skip
  · obtain ⟨h1, h2, h3⟩ := ho
    exact ⟨h.mem _ h1 (hx _ rfl), by rw [h.len _ h1 (hx _ rfl)]; exact h2, h3⟩
  · exact trivial

theorem cellsAt_le (h : hle bl bc H H') {x : V} (hx : ∀ k, x.oid = some k → ¬ bl k) (hx' : ∀ k, x.oid = some k → ¬ bc k) (ho : okAt H x) : cellsAt H' x = cellsAt H x := by
  cases x <;> first | exact ho.elim | skip
  · obtain ⟨h1, h2, h3⟩ := ho
    simp only [cellsAt]; rw [h.row _ h1 (hx _ rfl) (hx' _ rfl)]
  · rfl

theorem okSl_le (h : hle bl bc H H') {x : V} (hx : ∀ k, x.oid = some k → ¬ bl k) (ho : okSl H x) : okSl H' x := by
  unfold okSl at ho ⊢
  split at ho
  · obtain ⟨h1, h2⟩ := ho
    exact ⟨h.mem _ h1 (hx _ rfl), by rw [h.len _ h1 (hx _ rfl)]; exact h2⟩
  · trivial
  · trivial
  · trivial
  · trivial
  · exact ho.elim

theorem one_le (h : hle bl bc H H') {x : V} (hx : ∀ k, x.oid = some k → ¬ bl k) (ho : x.one H) : x.one H' := by
  cases x <;> first | exact ho | skip
  · rename_i id tot i j
    have ho' : (H.getD id .dead).hasTot tot := ho
    show (H'.getD id .dead).hasTot tot
    cases hd : H.getD id .dead with
    | mem fz refs rows =>
      have h1 := h.mem id (by rw [hd]; rfl) (hx _ rfl)
      have h2 := h.len id (by rw [hd]; rfl) (hx _ rfl)
      rw [hd] at ho' h2
      cases hd' : H'.getD id .dead with
      | mem fz' refs' rows' => rw [hd'] at h2; exact Eq.trans h2 ho'
      | _ => rw [hd'] at h1; cases h1
    | tree refs rows =>
      obtain ⟨h1, h2⟩ := h.tre id (by rw [hd]; rfl) (hx _ rfl)
      rw [hd] at ho' h2
      cases hd' : H'.getD id .dead with
      | tree refs' rows' => rw [hd'] at h2; exact Eq.trans h2 ho'
      | _ => rw [hd'] at h1; cases h1
    | _ => rw [hd] at ho'; exact ho'.elim
  · obtain ⟨h1, h2⟩ := ho
    exact ⟨h.mem _ h1 (hx _ rfl), by rw [h.len _ h1 (hx _ rfl)]; exact h2⟩
  · exact h.map _ ho (hx _ rfl)

theorem sized_le (h : hle bl bc H H') {x : V} {n : Nat} (hx : ∀ k, x.oid = some k → ¬ bl k) (ho : x.sized H n) : x.sized H' n := by
  by_cases hagg : ∃ cs, x = .agg cs
  · obtain ⟨cs, rfl⟩ := hagg; exact ho
  · have : x.one H ∧ n = 1 := by cases x <;> first | exact ho | exact (hagg ⟨_, rfl⟩).elim
    have : x.one H' ∧ n = 1 := ⟨one_le h hx this.1, this.2⟩
    cases x <;> first | exact this | exact (hagg ⟨_, rfl⟩).elim

theorem okMp_le (h : hle bl bc H H') {x : V} (hx : ∀ k, x.oid = some k → ¬ bl k) (ho : okMp H x) : okMp H' x := by
  unfold okMp at ho ⊢
  split at ho <;> first | exact h.map _ ho (hx _ rfl) | exact trivial | exact ho.elim

theorem ents_le (h : hle bl bc H H') {x : V} (hx : ∀ k, x.oid = some k → ¬ bl k) (hx' : ∀ k, x.oid = some k → ¬ bc k) (ho : okMp H x) : x.entsOf H' = x.entsOf H := by
  cases x <;> first | rfl | skip
  exact h.ents _ ho (hx _ rfl) (hx' _ rfl)

theorem rowsOf_le (h : hle bl bc H H') {x : V} (hx : ∀ k, x.oid = some k → ¬ bl k) (hx' : ∀ k, x.oid = some k → ¬ bc k) (ho : okSl H x) : x.rowsOf H' = x.rowsOf H := by
  cases x <;> first | rfl | skip
  · simp only [V.rowsOf]; rw [h.row _ ho.1 (hx _ rfl) (hx' _ rfl)]

theorem okZ_le (h : hle bl bc H H') {x : V} (hx : ∀ k, x.oid = some k → ¬ bl k) (ho : okZ H x) : okZ H' x := by
  cases x <;> first | trivial | skip
  · rcases ho with ho | ⟨h1, h2⟩
    · exact .inl (okAt_le h hx ho)
    · obtain ⟨g1, g2⟩ := h.tre _ h1 (hx _ rfl)
      exact .inr ⟨g1, g2.trans h2⟩
  · exact h.map _ ho (hx _ rfl)

theorem okNil_le (h : hle bl bc H H') {x : V} (hx : ∀ k, x.oid = some k → ¬ bl k) (ho : okNil H x) : okNil H' x := by
  unfold okNil at ho ⊢
  split at ho
  · trivial
  · exact okAt_le h hx ho

end

theorem optN_congr {st st' : St} {d : Int} {o : Option Operand} (h : ∀ x ∈ o.toList, st'.ev x = st.ev x) : optN st' d o = optN st d o := by
  cases o with
  | none => rfl
  | some x => simp only [optN]; rw [h x (by simp)]
theorem optP_congr {st st' : St} {o : Option Operand} (h : ∀ x ∈ o.toList, st'.ev x = st.ev x) : optP st' o ↔ optP st o := by
  cases o with
  | none => exact Iff.rfl
  | some x => simp only [optP]; rw [h x (by simp)]

/-- A light operation comes to the same where its operands are the same, and memory as far as it looks. -/
theorem L.stable {l : L} {st st' : St} {bl bc : Nat → Prop} (hev : ∀ x ∈ l.opds, st'.ev x = st.ev x) (hh : hle bl bc st.hp st'.hp) (hb : ∀ x ∈ l.hops, ∀ k, (st.ev x).oid = some k → ¬ bl k ∧ (l.isLd = true → ¬ bc k)) (hp : l.pre st) : l.pre st' ∧ l.val st' = l.val st := by
  cases l with
  | mov x => simp only [L.opds, List.mem_singleton, forall_eq] at hev; exact ⟨trivial, hev⟩
  | pick c a b =>
    simp only [L.opds, List.mem_cons, List.not_mem_nil, or_false, forall_eq_or_imp, forall_eq] at hev
    obtain ⟨h1, h2, h3⟩ := hev
    simp only [L.pre, L.val] at hp ⊢
    rw [h1, h2, h3]; exact ⟨hp, rfl⟩
  | bin op x y =>
    simp only [L.opds, List.mem_cons, List.not_mem_nil, or_false, forall_eq_or_imp, forall_eq] at hev
    obtain ⟨h1, h2⟩ := hev
    simp only [L.pre, L.val] at hp ⊢
    rw [h1, h2]; exact ⟨hp, rfl⟩
  | eqB neg x y =>
    simp only [L.opds, List.mem_cons, List.not_mem_nil, or_false, forall_eq_or_imp, forall_eq] at hev
    obtain ⟨h1, h2⟩ := hev
    simp only [L.pre, L.val] at hp ⊢
    rw [h1, h2]; exact ⟨hp, rfl⟩
  | eqN neg x =>
    simp only [L.opds, List.mem_singleton, forall_eq] at hev
    simp only [L.pre, L.val] at hp ⊢
    rw [hev]; exact ⟨⟨okSl_le hh (fun k e => (hb x (by simp [L.hops]) k e).1) hp.1, hp.2⟩, rfl⟩
  | un op x =>
    simp only [L.opds, List.mem_singleton, forall_eq] at hev
    simp only [L.pre, L.val] at hp ⊢
    rw [hev]; exact ⟨hp, rfl⟩
  | ld agg n x =>
    simp only [L.opds, List.mem_singleton, forall_eq] at hev
    simp only [L.pre, L.val, ldP, ldV] at hp ⊢
    rw [hev]
    have g1 := okAt_le hh (fun k e => (hb x (by simp [L.hops]) k e).1) hp.1
    have g2 := cellsAt_le hh (fun k e => (hb x (by simp [L.hops]) k e).1) (fun k e => (hb x (by simp [L.hops]) k e).2 rfl) hp.1
    rw [g2]
    exact ⟨⟨g1, hp.2⟩, rfl⟩
  | nilc x =>
    simp only [L.opds, List.mem_singleton, forall_eq] at hev
    simp only [L.pre, L.val] at hp ⊢
    rw [hev]; exact ⟨okNil_le hh (fun k e => (hb x (by simp [L.hops]) k e).1) hp, rfl⟩
  | fad x off =>
    simp only [L.opds, List.mem_singleton, forall_eq] at hev
    simp only [L.pre, L.val] at hp ⊢
    rw [hev]; exact ⟨okAt_le hh (fun k e => (hb x (by simp [L.hops]) k e).1) hp, rfl⟩
  | fld agg n off x =>
    simp only [L.opds, List.mem_singleton, forall_eq] at hev
    simp only [L.pre, L.val] at hp ⊢
    rw [hev]; exact ⟨hp, rfl⟩
  | ixS es x i =>
    simp only [L.opds, List.mem_cons, List.not_mem_nil, or_false, forall_eq_or_imp, forall_eq] at hev
    obtain ⟨h1, h2⟩ := hev
    simp only [L.pre, L.val] at hp ⊢
    rw [h1, h2]; exact ⟨⟨okSl_le hh (fun k e => (hb x (by simp [L.hops]) k e).1) hp.1, hp.2⟩, rfl⟩
  | ixA len es x i =>
    simp only [L.opds, List.mem_cons, List.not_mem_nil, or_false, forall_eq_or_imp, forall_eq] at hev
    obtain ⟨h1, h2⟩ := hev
    simp only [L.pre, L.val] at hp ⊢
    rw [h1, h2]; exact ⟨⟨okAt_le hh (fun k e => (hb x (by simp [L.hops]) k e).1) hp.1, hp.2⟩, rfl⟩
  | ixStr x i =>
    simp only [L.opds, List.mem_cons, List.not_mem_nil, or_false, forall_eq_or_imp, forall_eq] at hev
    obtain ⟨h1, h2⟩ := hev
    simp only [L.pre, L.val] at hp ⊢
    rw [h1, h2]; exact ⟨hp, rfl⟩
  | ixV agg len es x i =>
    simp only [L.opds, List.mem_cons, List.not_mem_nil, or_false, forall_eq_or_imp, forall_eq] at hev
    obtain ⟨h1, h2⟩ := hev
    simp only [L.pre, L.val] at hp ⊢
    rw [h1, h2]; exact ⟨hp, rfl⟩
  | ext x i =>
    simp only [L.opds, List.mem_singleton, forall_eq] at hev
    simp only [L.pre, L.val] at hp ⊢
    rw [hev]; exact ⟨hp, rfl⟩
  | lenStr x =>
    simp only [L.opds, List.mem_singleton, forall_eq] at hev
    simp only [L.pre, L.val] at hp ⊢
    rw [hev]; exact ⟨hp, rfl⟩
  | lenSl x =>
    simp only [L.opds, List.mem_singleton, forall_eq] at hev
    simp only [L.pre, L.val] at hp ⊢
    rw [hev]; exact ⟨okSl_le hh (fun k e => (hb x (by simp [L.hops]) k e).1) hp, rfl⟩
  | lenArr n => exact ⟨trivial, rfl⟩
  | conv k x =>
    simp only [L.opds, List.mem_singleton, forall_eq] at hev
    simp only [L.pre, L.val] at hp ⊢
    rw [hev]; exact ⟨hp, rfl⟩
  | build zero parts =>
    have hev' : ∀ p ∈ parts, st'.ev p.2.2 = st.ev p.2.2 := fun p hp => hev _ (by simp only [L.opds]; exact List.mem_map.2 ⟨p, hp, rfl⟩)
    simp only [L.pre, L.val] at hp ⊢
    refine ⟨fun p hp' => ?_, ?_⟩
    · rw [hev' p hp']; exact ⟨sized_le hh (fun k e => (hb p.2.2 (by simp only [L.hops]; exact List.mem_map.2 ⟨p, hp', rfl⟩) k e).1) (hp p hp').1, (hp p hp').2⟩
    · congr 2
      exact List.map_congr_left fun p hp' => by rw [hev' p hp']
  | mkfn fn first cap =>
    simp only [L.opds, List.mem_append] at hev
    refine ⟨trivial, ?_⟩
    simp only [L.val]
    rw [List.map_congr_left fun x hx => hev x (.inl hx), List.map_congr_left fun x hx => hev x (.inr hx)]
  | slStr x lo hi =>
    simp only [L.opds, List.mem_cons, List.mem_append] at hev
    have h1 := hev x (.inl rfl)
    simp only [L.pre, L.val] at hp ⊢
    rw [h1, optN_congr fun y hy => hev y (.inr (.inl hy)), optN_congr fun y hy => hev y (.inr (.inr hy)), optP_congr fun y hy => hev y (.inr (.inl hy)), optP_congr fun y hy => hev y (.inr (.inr hy))]
    exact ⟨hp, rfl⟩
  | slSl es x lo hi =>
    simp only [L.opds, List.mem_cons, List.mem_append] at hev
    have h1 := hev x (.inl rfl)
    simp only [L.pre, L.val] at hp ⊢
    rw [h1, optN_congr fun y hy => hev y (.inr (.inl hy)), optN_congr fun y hy => hev y (.inr (.inr hy)), optP_congr fun y hy => hev y (.inr (.inl hy)), optP_congr fun y hy => hev y (.inr (.inr hy))]
    exact ⟨⟨okSl_le hh (fun k e => (hb x (by simp [L.hops]) k e).1) hp.1, hp.2⟩, rfl⟩
  | mkif t x =>
    simp only [L.opds, List.mem_singleton, forall_eq] at hev
    exact ⟨trivial, by simp only [L.val]; rw [hev]⟩
  | lkp ok k zero m x =>
    simp only [L.opds, List.mem_cons, List.not_mem_nil, or_false, forall_eq_or_imp, forall_eq] at hev
    obtain ⟨h1, h2⟩ := hev
    simp only [L.pre, L.val] at hp ⊢
    rw [h1, h2]
    have g := ents_le hh (fun k e => (hb m (by simp [L.hops]) k e).1) (fun k e => (hb m (by simp [L.hops]) k e).2 rfl) hp.1
    rw [g]
    exact ⟨⟨okMp_le hh (fun k e => (hb m (by simp [L.hops]) k e).1) hp.1, hp.2⟩, rfl⟩
  | lenMp m =>
    simp only [L.opds, List.mem_singleton, forall_eq] at hev
    simp only [L.pre, L.val] at hp ⊢
    rw [hev, ents_le hh (fun k e => (hb m (by simp [L.hops]) k e).1) (fun k e => (hb m (by simp [L.hops]) k e).2 rfl) hp]
    exact ⟨okMp_le hh (fun k e => (hb m (by simp [L.hops]) k e).1) hp, rfl⟩
  | eqD neg offs x y =>
    simp only [L.opds, List.mem_cons, List.not_mem_nil, or_false, forall_eq_or_imp, forall_eq] at hev
    obtain ⟨h1, h2⟩ := hev
    simp only [L.pre, L.val] at hp ⊢
    rw [h1, h2]; exact ⟨hp, rfl⟩
  | cvBS x =>
    simp only [L.opds, List.mem_singleton, forall_eq] at hev
    simp only [L.pre, L.val] at hp ⊢
    rw [hev, rowsOf_le hh (fun k e => (hb x (by simp [L.hops]) k e).1) (fun k e => (hb x (by simp [L.hops]) k e).2 rfl) hp.1]
    exact ⟨⟨okSl_le hh (fun k e => (hb x (by simp [L.hops]) k e).1) hp.1, hp.2⟩, rfl⟩
  | eqZ kd neg x =>
    simp only [L.opds, List.mem_singleton, forall_eq] at hev
    simp only [L.pre, L.val] at hp ⊢
    rw [hev]
    exact ⟨⟨hp.1, okZ_le hh (fun k e => (hb x (by simp [L.hops]) k e).1) hp.2⟩, rfl⟩
  | slM es x h m =>
    simp only [L.opds, List.mem_cons, List.not_mem_nil, or_false, forall_eq_or_imp, forall_eq] at hev
    obtain ⟨h1, h2, h3⟩ := hev
    simp only [L.pre, L.val] at hp ⊢
    rw [h1, h2, h3]; exact ⟨hp, rfl⟩
  | slZ es x =>
    simp only [L.opds, List.mem_singleton, forall_eq] at hev
    simp only [L.pre, L.val] at hp ⊢
    rw [hev]
    exact ⟨⟨okSl_le hh (fun k e => (hb x (by simp [L.hops]) k e).1) hp.1, hp.2⟩, trivial⟩
  | mxm mx xs =>
    simp only [L.opds] at hev
    simp only [L.pre, L.val] at hp ⊢
    cases xs with
    | nil => exact hp.elim
    | cons x rest =>
      simp only at hp ⊢
      rw [hev x (by simp)]
      refine ⟨⟨hp.1, fun y hy => by rw [hev y (by simp [hy])]; exact hp.2 y hy⟩, ?_⟩
      have key : ∀ (l : List Operand) (n : Int), (∀ y ∈ l, st'.ev y = st.ev y) → l.foldl (fun n y => mxI mx n (st'.ev y).num) n = l.foldl (fun n y => mxI mx n (st.ev y).num) n := by
        intro l
        induction l with
        | nil => intro n _; rfl
        | cons y l ih =>
          intro n h
          simp only [List.foldl_cons]
          rw [h y (by simp)]
          exact ih _ fun z hz => h z (by simp [hz])
      rw [key rest _ fun y hy => hev y (by simp [hy])]


def tmpsOf : List Operand → List Nat
  | [] => []
  | .tmp t :: l => t :: tmpsOf l
  | _ :: l => tmpsOf l

theorem tmpsOf_mem {t : Nat} {l : List Operand} : t ∈ tmpsOf l ↔ Operand.tmp t ∈ l := by
  induction l with
  | nil => simp [tmpsOf]
  | cons x l ih => cases x <;> simp [tmpsOf, ih]

/-- The slots that an operation looks at. -/
def I.rd : I → List Nat
  | .lt _ l => tmpsOf l.opds
  | .frz t => [t]
  | .nilv t _ => [t]
  | .nilo t _ _ => [t]
  | .keep _ => []
  | .wk => []
  | .store ap _ x v => ap ++ tmpsOf [x, v]
  | .alloc .. => []
  | .box _ _ _ x => tmpsOf [x]
  | .bsl _ _ _ _ _ parts => tmpsOf (parts.map (·.2))
  | .bsv _ _ _ _ parts => tmpsOf (parts.map (·.2))
  | .app ap _ _ _ _ x y => ap ++ tmpsOf [x, y]
  | .call _ _ xs => tmpsOf xs
  | .callv _ fv xs => tmpsOf (fv :: xs)
  | .callm _ fv xs => tmpsOf (fv :: xs)
  | .callb _ fv xs => tmpsOf (fv :: xs)
  | .callo _ fv xs => tmpsOf (fv :: xs)
  | .mkm .. => []
  | .mup ap _ m key v => ap ++ tmpsOf [m, key, v]
  | .rng _ _ x => tmpsOf [x]
  | .nxt _ x => tmpsOf [x]
  | .clr _ _ _ x => tmpsOf [x]
  | .cpy _ _ x y => tmpsOf [x, y]
  | .calla ap _ fv xs => ap ++ tmpsOf (fv :: xs)
  | .mks _ _ _ _ _ n => tmpsOf [n]
  | .pan => []

def I.wr : I → List Nat
  | .lt d _ | .alloc d _ _ _ | .box d _ _ _ | .bsl d _ _ _ _ _ | .bsv d _ _ _ _ | .app _ d _ _ _ _ _ | .call d _ _ | .callv d _ _ | .callm d _ _ | .callb d _ _ | .callo d _ _ | .mkm d _ | .rng d _ _ | .nxt d _ | .clr d _ _ _ | .cpy d _ _ _ | .mks d _ _ _ _ _ | .calla _ d _ _ => d.toList
  | .frz t => [t]
  | .nilv t _ => [t]
  | .nilo t _ _ => [t]
  | .keep _ => []
  | .wk => []
  | .store .. => []
  | .mup .. => []
  | .pan => []

/-- May it stand in a region whose order is open? -/
def I.free : I → Bool
  | .nilo .. | .keep _ | .wk | .callm .. | .clr .. | .cpy .. | .mks .. | .pan => false
  | _ => true

/-- The slots whose objects it keeps away from; does it change what is held, or how long it is? -/
def I.ap : I → List Nat
  | .store ap .. => ap
  | .app ap .. => ap
  | .mup ap .. => ap
  | .calla ap .. => ap
  | _ => []
def I.quiet : I → Bool
  | .store .. | .app .. | .mup .. | .callm .. | .calla .. | .wk => false
  | _ => true
def I.isSt : I → Bool
  | .store .. | .mup .. => true
  | _ => false

theorem ev_put {st : St} {d : Nat} {v : V} {x : Operand} (h : x ≠ .tmp d) : (st.put (some d) v).ev x = st.ev x := by
  cases x with
  | tmp t =>
    show (if d = t then v else gt st.sl t) = gt st.sl t
    rw [if_neg fun e => h (by rw [e])]
  | _ => rfl

theorem ev_hp {st : St} {H : Heap} {x : Operand} : ({ st with hp := H } : St).ev x = st.ev x := by cases x <;> rfl

theorem put_comm {st : St} {d : Nat} {v : V} {d' : Option Nat} {u : V} (h : d ∉ d'.toList) : (st.put (some d) v).put d' u = (st.put d' u).put (some d) v := by
  cases d' with
  | none => rfl
  | some d' =>
    have hne : d ≠ d' := by simpa using h
    simp only [St.put, St.mk.injEq, and_self, and_true]
    funext t
    simp only [up]
    by_cases h1 : d' = t <;> by_cases h2 : d = t <;> simp_all

theorem I.vc_mono {P : Program} {i : I} {K K' : St → Prop} {st : St} (h : i.vc P K st) (hk : ∀ s, K s → K' s) : i.vc P K' st := by
  cases i with
  | lt d l => exact ⟨h.1, hk _ h.2⟩
  | frz t =>
    simp only [I.vc] at h ⊢
    split
    · next e => rw [if_pos e] at h; exact hk _ h
    · next e => rw [if_neg e] at h; exact ⟨h.1, hk _ h.2⟩
  | nilv t es => exact hk _ h
  | nilo t es r =>
    simp only [I.vc] at h ⊢
    split at h
    · exact ⟨h.1, hk _ h.2⟩
    · exact hk _ h
  | keep ts => exact hk _ h
  | wk => obtain ⟨st', h1, h2⟩ := h; exact ⟨st', h1, hk _ h2⟩
  | store ap n x v =>
    simp only [I.vc] at h ⊢
    split at h
    · next ex =>
      split at h
      · next hgd => exact ⟨h.1, h.2.1, h.2.2.1, h.2.2.2.1, h.2.2.2.2.1, hk _ h.2.2.2.2.2⟩
      · exact h.elim
    · exact h.elim
  | alloc d r n zero => exact ⟨h.1, h.2.1, hk _ h.2.2⟩
  | box d r n x => exact ⟨h.1, h.2.1, hk _ h.2.2⟩
  | bsl d r es n zero parts => exact ⟨h.1, h.2.1, h.2.2.1, hk _ h.2.2.2⟩
  | bsv d es n zero parts => exact ⟨h.1, h.2.1, hk _ h.2.2⟩
  | app ap d r es bytes x y =>
    simp only [I.vc] at h ⊢
    split at h
    · next ex =>
      split at h
      · next hgd =>
        obtain ⟨h0, h1, h2, h3, h4, h5, h6, h7⟩ := h
        exact ⟨h0, h1, h2, h3, h4, h5, h6, hk _ h7⟩
      · exact h.elim
    · next ex =>
      obtain ⟨h1, h2, h3, h4, h5⟩ := h
      exact ⟨h1, h2, h3, h4, hk _ h5⟩
    · next ex =>
      obtain ⟨h0, h1, h2, h3, h4, h5⟩ := h
      refine ⟨h0, h1, h2, h3, h4, ?_⟩
      split
      · next e => rw [if_pos e] at h5; exact hk _ h5
      · next e => rw [if_neg e] at h5; exact hk _ h5
    · exact h.elim
  | call d f xs => exact ⟨h.1, DP.mono h.2 fun r hr => hk _ hr⟩
  | callv d fv xs =>
    simp only [I.vc] at h ⊢
    split at h
    · next ex =>
      exact ⟨h.1, h.2.1, DP.mono h.2.2 fun r hr => hk _ hr⟩
    · exact h.elim
  | callm d fv xs =>
    simp only [I.vc] at h ⊢
    split at h
    · exact ⟨h.1, h.2.1, DC.mono h.2.2 fun r H' hr => hk _ hr⟩
    · exact h.elim
  | callb d fv xs =>
    simp only [I.vc] at h ⊢
    split at h
    · exact ⟨h.1, h.2.1, DP.mono h.2.2 fun r hr => ⟨hr.1, hk _ hr.2⟩⟩
    · exact h.elim
  | callo d fv xs =>
    simp only [I.vc] at h ⊢
    split at h
    · exact ⟨h.1, h.2.1, DC.mono h.2.2 fun r H' hr => hk _ hr⟩
    · exact h.elim
  | mkm d r => exact ⟨h.1, hk _ h.2⟩
  | mup ap kd m key v =>
    simp only [I.vc] at h ⊢
    split at h
    · split at h
      · exact ⟨h.1, h.2.1, h.2.2.1, hk _ h.2.2.2⟩
      · exact h.elim
    · exact h.elim
  | rng d r x => exact ⟨h.1, h.2.1, hk _ h.2.2⟩
  | nxt d x =>
    simp only [I.vc] at h ⊢
    split at h
    · split at h
      · split at h
        · next hlt => rw [if_pos hlt]; exact hk _ h
        · next hlt => rw [if_neg hlt]; exact hk _ h
      · exact h.elim
    · exact h.elim
  | calla ap d fv xs =>
    simp only [I.vc] at h ⊢
    split at h
    · exact ⟨h.1, h.2.1, h.2.2.1, DC.mono h.2.2.2 fun r H' hr => hk _ hr⟩
    · exact h.elim
  | clr d es zero x =>
    simp only [I.vc] at h ⊢
    split at h
    · split at h
      · exact ⟨h.1, h.2.1, h.2.2.1, h.2.2.2.1, hk _ h.2.2.2.2⟩
      · exact h.elim
    · exact hk _ h
    · exact h.elim
  | cpy d es x y =>
    simp only [I.vc] at h ⊢
    split at h
    · split at h
      · exact ⟨h.1, h.2.1, h.2.2.1, h.2.2.2.1, h.2.2.2.2.1, h.2.2.2.2.2.1, hk _ h.2.2.2.2.2.2⟩
      · exact h.elim
    · exact h.elim
  | mks d r es bytes zero n => exact ⟨h.1, h.2.1, h.2.2.1, h.2.2.2.1, h.2.2.2.2.1, hk _ h.2.2.2.2.2⟩
  | pan => exact h.elim

/-- A slot that the operation doesn't touch may be set before it or behind it. -/
theorem I.vc_put {P : Program} {i : I} {K : St → Prop} {st : St} {d : Nat} {v : V} (hf : i.free = true) (hr : d ∉ i.rd) (hw : d ∉ i.wr) (h : i.vc P K (st.put (some d) v)) :
    i.vc P (fun s => K (s.put (some d) v)) st := by
  have nt : ∀ {x : Operand} {l : List Operand}, d ∉ tmpsOf l → x ∈ l → x ≠ .tmp d := fun h1 h2 e => h1 (tmpsOf_mem.2 (e ▸ h2))
  have sl : ∀ {t : Nat}, d ≠ t → gt (st.put (some d) v).sl t = gt st.sl t := fun h => if_neg h
  cases i with
  | lt d' l =>
    obtain ⟨h1, h2⟩ := h
    obtain ⟨g1, g2⟩ := L.stable (st := st.put (some d) v) (st' := st) (fun x hx => (ev_put (nt hr hx)).symm) (hle.refl (fun _ => False) (fun _ => False) _) (fun _ _ _ _ => ⟨fun h => h, fun _ h => h⟩) h1
    refine ⟨g1, ?_⟩
    rw [put_comm hw] at h2
    rw [g2]; exact h2
  | frz t =>
    have ht : d ≠ t := by simpa [I.rd] using hr
    simp only [I.vc] at h ⊢
    rw [sl ht] at h
    split
    · next e => rw [if_pos e] at h; exact h
    · next e =>
      rw [if_neg e] at h
      refine ⟨h.1, ?_⟩
      have h2 := h.2
      have e2 : up (st.put (some d) v).sl t ((gt st.sl t).fz (st.put (some d) v).hp) = up (up st.sl t ((gt st.sl t).fz st.hp)) d v := by
        funext u
        simp only [up, St.put]
        by_cases a1 : t = u <;> by_cases a2 : d = u <;> simp_all
      rw [e2] at h2
      exact h2
  | nilv t es =>
    have ht : d ≠ t := by simpa [I.rd] using hr
    simp only [I.vc] at h ⊢
    rw [sl ht] at h
    have e2 : ∀ y, up (st.put (some d) v).sl t y = up (up st.sl t y) d v := by
      intro y
      funext u
      simp only [up, St.put]
      by_cases a1 : t = u <;> by_cases a2 : d = u <;> simp_all
    rw [e2] at h
    exact h
  | nilo t es r => cases hf
  | keep ts => cases hf
  | wk => cases hf
  | store ap n x y =>
    simp only [I.rd, List.mem_append, not_or] at hr
    simp only [I.vc] at h ⊢
    rw [ev_put (nt hr.2 (by simp)), ev_put (nt hr.2 (by simp))] at h
    have e1 : (st.put (some d) v).hp = st.hp := rfl
    simp only [e1] at h
    split at h
    · next ex =>
      split at h
      · next hgd =>
        obtain ⟨h0, h1⟩ := h
        exact ⟨fun t ht => by rw [← sl fun e => hr.1 (e ▸ ht)]; exact h0 t ht, h1⟩
      · exact h.elim
    · exact h.elim
  | alloc d' r n zero =>
    obtain ⟨h1, h2, h3⟩ := h
    refine ⟨h1, h2, ?_⟩
    show K _
    rw [← put_comm hw]; exact h3
  | box d' r n x =>
    obtain ⟨h1, h2, h3⟩ := h
    rw [ev_put (nt hr (by simp))] at h2 h3
    refine ⟨h1, h2, ?_⟩
    show K _
    rw [← put_comm hw]; exact h3
  | bsv d' es n zero parts =>
    obtain ⟨h2, h3, h4⟩ := h
    have hp : ∀ p ∈ parts, (st.put (some d) v).ev p.2 = st.ev p.2 := fun p hp => ev_put (nt hr (List.mem_map.2 ⟨p, hp, rfl⟩))
    have hm : (parts.map fun (p : Nat × Operand) => (p.1 * es, es, (st.put (some d) v).ev p.2)) = parts.map fun (p : Nat × Operand) => (p.1 * es, es, st.ev p.2) := List.map_congr_left fun p hp' => by rw [hp p hp']
    rw [hm] at h4
    refine ⟨h2, fun p hp' => by have := h3 p hp'; rw [hp p hp'] at this; exact this, ?_⟩
    show K _
    rw [← put_comm hw]; exact h4
  | bsl d' r es n zero parts =>
    obtain ⟨h1, h2, h3, h4⟩ := h
    have hp : ∀ p ∈ parts, (st.put (some d) v).ev p.2 = st.ev p.2 := fun p hp => ev_put (nt hr (List.mem_map.2 ⟨p, hp, rfl⟩))
    have hm : (parts.map fun (p : Nat × Operand) => (p.1 * es, es, (st.put (some d) v).ev p.2)) = parts.map fun (p : Nat × Operand) => (p.1 * es, es, st.ev p.2) := List.map_congr_left fun p hp' => by rw [hp p hp']
    rw [hm] at h4
    refine ⟨h1, h2, fun p hp' => by have := h3 p hp'; rw [hp p hp'] at this; exact this, ?_⟩
    show K _
    rw [← put_comm hw]; exact h4
  | app ap d' r es bytes x y =>
    simp only [I.rd, List.mem_append, not_or] at hr
    simp only [I.vc] at h ⊢
    rw [ev_put (nt hr.2 (by simp)), ev_put (nt hr.2 (by simp))] at h
    have e1 : (st.put (some d) v).hp = st.hp := rfl
    have e2 : (st.put (some d) v).bs = st.bs := rfl
    simp only [e1, e2] at h
    split at h
    · next ex =>
      split at h
      · next hgd =>
        obtain ⟨h0, h1, h2, h3, h4, h5, h6, h7⟩ := h
        refine ⟨fun t ht => by rw [← sl fun e => hr.1 (e ▸ ht)]; exact h0 t ht, h1, h2, h3, h4, h5, h6, ?_⟩
        show K _
        rw [← put_comm hw]; exact h7
      · exact h.elim
    · next ex =>
      obtain ⟨h1, h2, h3, h4, h5⟩ := h
      refine ⟨h1, h2, h3, h4, ?_⟩
      show K _
      rw [← put_comm hw]; exact h5
    · next ex =>
      obtain ⟨h0, h1, h2, h3, h4, h5⟩ := h
      refine ⟨h0, h1, h2, h3, h4, ?_⟩
      split
      · next e =>
        rw [if_pos e] at h5
        show K _
        rw [← put_comm hw]; exact h5
      · next e =>
        rw [if_neg e] at h5
        show K _
        rw [← put_comm hw]; exact h5
    · exact h.elim
  | call d' f xs =>
    obtain ⟨h1, h2⟩ := h
    have hm : xs.map (st.put (some d) v).ev = xs.map st.ev := List.map_congr_left fun x hx => ev_put (nt hr hx)
    rw [hm] at h1 h2
    exact ⟨h1, DP.mono h2 fun r hr' => by show K _; rw [← put_comm hw]; exact hr'⟩
  | callv d' fv xs =>
    simp only [I.vc] at h ⊢
    have hm : xs.map (st.put (some d) v).ev = xs.map st.ev := List.map_congr_left fun x hx => ev_put (nt hr (by simp [hx]))
    rw [ev_put (nt hr (by simp)), hm] at h
    split at h
    · next ex =>
      exact ⟨h.1, h.2.1, DP.mono h.2.2 fun r hr' => by show K _; rw [← put_comm hw]; exact hr'⟩
    · exact h.elim
  | callm d' fv xs => cases hf
  | callb d' fv xs =>
    simp only [I.vc] at h ⊢
    have hm : xs.map (st.put (some d) v).ev = xs.map st.ev := List.map_congr_left fun x hx => ev_put (nt hr (by simp [hx]))
    rw [ev_put (nt hr (by simp)), hm] at h
    split at h
    · next ex =>
      exact ⟨h.1, h.2.1, DP.mono h.2.2 fun r hr' => ⟨hr'.1, by show K _; rw [← put_comm hw]; exact hr'.2⟩⟩
    · exact h.elim
  | callo d' fv xs =>
    simp only [I.vc] at h ⊢
    have hm : xs.map (st.put (some d) v).ev = xs.map st.ev := List.map_congr_left fun x hx => ev_put (nt hr (by simp [hx]))
    rw [ev_put (nt hr (by simp)), hm] at h
    split at h
    · next ex =>
      refine ⟨h.1, h.2.1, DC.mono h.2.2 fun r H' hr' => ?_⟩
      show K _
      rw [← put_comm hw]; exact hr'
    · exact h.elim
  | mkm d' r =>
    obtain ⟨h1, h2⟩ := h
    refine ⟨h1, ?_⟩
    show K _
    rw [← put_comm hw]; exact h2
  | mup ap kd m key y =>
    simp only [I.rd, List.mem_append, not_or] at hr
    simp only [I.vc] at h ⊢
    rw [ev_put (nt hr.2 (by simp)), ev_put (nt hr.2 (by simp)), ev_put (nt hr.2 (by simp))] at h
    have e1 : (st.put (some d) v).hp = st.hp := rfl
    simp only [e1] at h
    split at h
    · split at h
      · obtain ⟨h0, h1⟩ := h
        exact ⟨fun t ht => by rw [← sl fun e => hr.1 (e ▸ ht)]; exact h0 t ht, h1⟩
      · exact h.elim
    · exact h.elim
  | rng d' r x =>
    obtain ⟨h1, h2, h3⟩ := h
    rw [ev_put (nt hr (by simp))] at h2 h3
    refine ⟨h1, h2, ?_⟩
    show K _
    rw [← put_comm hw]; exact h3
  | nxt d' x =>
    simp only [I.vc] at h ⊢
    rw [ev_put (nt hr (by simp))] at h
    have e1 : (st.put (some d) v).hp = st.hp := rfl
    simp only [e1] at h
    split at h
    · split at h
      · split at h
        · next hlt => rw [if_pos hlt]; show K _; rw [← put_comm hw]; exact h
        · next hlt => rw [if_neg hlt]; show K _; rw [← put_comm hw]; exact h
      · exact h.elim
    · exact h.elim
  | clr => cases hf
  | cpy => cases hf
  | mks => cases hf
  | pan => cases hf
  | calla ap d' fv xs =>
    simp only [I.rd, List.mem_append, not_or] at hr
    simp only [I.vc] at h ⊢
    have hm : xs.map (st.put (some d) v).ev = xs.map st.ev := List.map_congr_left fun x hx => ev_put (nt hr.2 (by simp [hx]))
    rw [ev_put (nt hr.2 (by simp)), hm] at h
    split at h
    · next ex =>
      refine ⟨h.1, h.2.1, fun t ht => by rw [← sl fun e => hr.1 (e ▸ ht)]; exact h.2.2.1 t ht, DC.mono h.2.2.2 fun r H' hr' => ?_⟩
      show K _
      rw [← put_comm hw]; exact hr'
    · exact h.elim


/-- What an operation leaves as it was. -/
def Out (i : I) (st st' : St) : Prop :=
  (∀ t, t ∉ i.wr → gt st'.sl t = gt st.sl t) ∧ ∃ bl bc : Nat → Prop, hle bl bc st.hp st'.hp ∧ (i.quiet = true → ∀ k, ¬ bl k ∧ ¬ bc k) ∧ (i.isSt = true → ∀ k, ¬ bl k) ∧ ∀ t ∈ i.ap, ∀ k, (gt st.sl t).oid = some k → ¬ bl k ∧ ¬ bc k

theorem Out.quiet {i : I} {st st' : St} (h : ∀ t, t ∉ i.wr → gt st'.sl t = gt st.sl t) (hh : hle (fun _ => False) (fun _ => False) st.hp st'.hp) : Out i st st' :=
  ⟨h, fun _ => False, fun _ => False, hh, fun _ _ => ⟨fun h => h, fun h => h⟩, fun _ _ h => h, fun _ _ _ _ => ⟨fun h => h, fun h => h⟩⟩

theorem gt_put {st : St} {d : Option Nat} {v : V} {t : Nat} (h : t ∉ d.toList) : gt (st.put d v).sl t = gt st.sl t := by
  cases d with
  | none => rfl
  | some d => exact if_neg fun e => h (by simp [e])

theorem hle_set {H : Heap} {id : Nat} {o : O} (h : H[id]? = some .res) : hle (fun _ => False) (fun _ => False) H (H.set id o) := by
  have e : ∀ k, k ≠ id → (H.set id o).getD k .dead = H.getD k .dead := fun k hk => by simp only [List.getD, getElem?_set_ne' hk]
  have e2 : H.getD id .dead = .res := getD_some h
  have key : ∀ k, ((H.getD k .dead).isMem = true ∨ (H.getD k .dead).isMap = true ∨ (H.getD k .dead).isTree = true) → (H.set id o).getD k .dead = H.getD k .dead := by
    intro k hk
    refine e k fun hki => ?_
    subst hki
    rw [e2] at hk
    rcases hk with hk | hk | hk <;> cases hk
  exact ⟨fun k hk _ => by rw [key k (.inl hk)]; exact hk, fun k hk _ => by rw [key k (.inl hk)], fun k hk _ _ => by rw [key k (.inl hk)], fun k hk _ => by rw [key k (.inr (.inl hk))]; exact hk, fun k hk _ _ => by rw [key k (.inr (.inl hk))], fun k hk _ => by rw [key k (.inr (.inr hk))]; exact ⟨hk, rfl⟩⟩

theorem hle_app {H X : Heap} : hle (fun _ => False) (fun _ => False) H (H ++ X) := by
  have key : ∀ k, ((H.getD k .dead).isMem = true ∨ (H.getD k .dead).isMap = true ∨ (H.getD k .dead).isTree = true) → (H ++ X).getD k .dead = H.getD k .dead := by
    intro k hk
    by_cases hl : k < H.length
    · simp only [List.getD, List.getElem?_append_left hl]
    · have : H.getD k .dead = .dead := by simp [List.getD, List.getElem?_eq_none (Nat.le_of_not_lt hl)]
      rw [this] at hk
      rcases hk with hk | hk | hk <;> cases hk
  exact ⟨fun k hk _ => by rw [key k (.inl hk)]; exact hk, fun k hk _ => by rw [key k (.inl hk)], fun k hk _ _ => by rw [key k (.inl hk)], fun k hk _ => by rw [key k (.inr (.inl hk))]; exact hk, fun k hk _ _ => by rw [key k (.inr (.inl hk))], fun k hk _ => by rw [key k (.inr (.inr hk))]; exact ⟨hk, rfl⟩⟩

theorem hle_fz {l : List Nat} : ∀ {H : Heap}, hle (fun _ => False) (fun _ => False) H (H.fz l) := by
  intro H
  have e : ∀ id, (H.fz l).getD id .dead = if id ∈ l then (H.getD id .dead).fz else H.getD id .dead := by
    intro id
    simp only [List.getD, Heap.fz_get]
    cases H[id]? with
    | none => simp only [Option.map_none, Option.getD_none]; split <;> rfl
    | some o => simp only [Option.map_some, Option.getD_some]
  have r : ∀ o : O, o.fz.rows = o.rows ∧ o.fz.isMem = o.isMem ∧ o.fz.isMap = o.isMap ∧ o.fz.ents = o.ents ∧ o.fz.isTree = o.isTree ∧ o.fz.trows = o.trows := fun o => by cases o <;> exact ⟨rfl, rfl, rfl, rfl, rfl, rfl⟩
  refine ⟨fun k hk _ => ?_, fun k hk _ => ?_, fun k hk _ _ => ?_, fun k hk _ => ?_, fun k hk _ _ => ?_, fun k hk _ => ?_⟩ <;> rw [e] <;> split <;> simp_all

theorem hle_mem {H : Heap} {id : Nat} {fz : Bool} {refs refs' : List Nat} {rows rows' : List (List V)} (h : H[id]? = some (.mem fz refs rows)) :
    hle (fun k => k = id ∧ rows'.length ≠ rows.length) (fun k => k = id) H (H.set id (.mem fz refs' rows')) := by
  have e : ∀ k, k ≠ id → (H.set id (.mem fz refs' rows')).getD k .dead = H.getD k .dead := fun k hk => by simp only [List.getD, getElem?_set_ne' hk]
  have e2 : H.getD id .dead = .mem fz refs rows := getD_some h
  have e3 : (H.set id (.mem fz refs' rows')).getD id .dead = .mem fz refs' rows' := getD_some (get_set h)
  refine ⟨fun k hk _ => ?_, fun k hk hb => ?_, fun k hk _ hc => ?_, fun k hk _ => ?_, fun k hk _ hc => by rw [e k hc], fun k hk _ => ?_⟩
  · by_cases hki : k = id
    · subst hki; rw [e3]; rfl
    · rw [e k hki]; exact hk
  · by_cases hki : k = id
    · subst hki; rw [e3, e2]; exact Classical.byContradiction fun hn => hb ⟨rfl, hn⟩
    · rw [e k hki]
  · rw [e k hc]
  · by_cases hki : k = id
    · subst hki; rw [e2] at hk; cases hk
    · rw [e k hki]; exact hk
  · by_cases hki : k = id
    · subst hki; rw [e2] at hk; cases hk
    · rw [e k hki]; exact ⟨hk, rfl⟩

theorem hle_map {H : Heap} {id : Nat} {fz : Bool} {refs refs' : List Nat} {es es' : List (V × V)} (h : H[id]? = some (.map fz refs es)) :
    hle (fun _ => False) (fun k => k = id) H (H.set id (.map fz refs' es')) := by
  have e : ∀ k, k ≠ id → (H.set id (.map fz refs' es')).getD k .dead = H.getD k .dead := fun k hk => by simp only [List.getD, getElem?_set_ne' hk]
  have e2 : H.getD id .dead = .map fz refs es := getD_some h
  have e3 : (H.set id (.map fz refs' es')).getD id .dead = .map fz refs' es' := getD_some (get_set h)
  refine ⟨fun k hk _ => ?_, fun k hk _ => ?_, fun k hk _ hc => by rw [e k hc], fun k hk _ => ?_, fun k hk _ hc => by rw [e k hc], fun k hk _ => ?_⟩
  all_goals by_cases hki : k = id
  · subst hki; rw [e2] at hk; cases hk
  · rw [e k hki]; exact hk
  · subst hki; rw [e2] at hk; cases hk
  · rw [e k hki]
  · subst hki; rw [e3]; rfl
  · rw [e k hki]; exact hk
  · subst hki; rw [e2] at hk; cases hk
  · rw [e k hki]; exact ⟨hk, rfl⟩

theorem hle_sit {H : Heap} {id : Nat} {s s' : ByteArray} {p p' : Nat} (h : H[id]? = some (.sit s p)) : hle (fun _ => False) (fun _ => False) H (H.set id (.sit s' p')) := by
  have e : ∀ k, ((H.getD k .dead).isMem = true ∨ (H.getD k .dead).isMap = true ∨ (H.getD k .dead).isTree = true) → (H.set id (.sit s' p')).getD k .dead = H.getD k .dead := fun k hk => by
    by_cases hki : k = id
    · subst hki
      rw [getD_some h] at hk
      rcases hk with hk | hk | hk <;> cases hk
    · simp only [List.getD, getElem?_set_ne' hki]
  exact ⟨fun k hk _ => by rw [e k (.inl hk)]; exact hk, fun k hk _ => by rw [e k (.inl hk)], fun k hk _ _ => by rw [e k (.inl hk)], fun k hk _ => by rw [e k (.inr (.inl hk))]; exact hk, fun k hk _ _ => by rw [e k (.inr (.inl hk))], fun k hk _ => by rw [e k (.inr (.inr hk))]; exact ⟨hk, rfl⟩⟩

theorem hle_merge {H H' : Heap} {sel : List Nat} (ok : OkSel H sel) : hle (· ∈ sel) (· ∈ sel) H (merge H sel H') := by
  have e : ∀ k, k ∉ sel → ((H.getD k .dead).isMem = true ∨ (H.getD k .dead).isMap = true ∨ (H.getD k .dead).isTree = true) → (merge H sel H').getD k .dead = H.getD k .dead := fun k hk hm => by
    have hlt : k < H.length := by
      refine Classical.byContradiction fun hn => ?_
      have : H.getD k .dead = .dead := by simp [List.getD, List.getElem?_eq_none (Nat.le_of_not_lt hn)]
      rw [this] at hm
      rcases hm with hm | hm | hm <;> cases hm
    simp only [List.getD]
    rw [merge_out hlt hk]
  exact ⟨fun k hk hn => by rw [e k hn (.inl hk)]; exact hk, fun k hk hn => by rw [e k hn (.inl hk)], fun k hk hn _ => by rw [e k hn (.inl hk)], fun k hk hn => by rw [e k hn (.inr (.inl hk))]; exact hk, fun k hk hn _ => by rw [e k hn (.inr (.inl hk))], fun k hk hn => by rw [e k hn (.inr (.inr hk))]; exact ⟨hk, rfl⟩⟩

theorem get_of {H : Heap} {id : Nat} {o : O} (h : H.getD id .dead = o) (ho : o ≠ .dead) : H[id]? = some o := by
  cases hq : H[id]? with
  | none => simp [List.getD, hq] at h; exact (ho h.symm).elim
  | some o => rw [getD_some hq] at h; rw [h]

theorem hid_of {H : Heap} {id : Nat} {fz : Bool} {refs : List Nat} {rows : List (List V)} (h : H.getD id .dead = .mem fz refs rows) : H[id]? = some (.mem fz refs rows) := by
  cases hq : H[id]? with
  | none => simp [List.getD, hq] at h
  | some o => rw [getD_some hq] at h; rw [h]

theorem I.vc_out {P : Program} {i : I} {K : St → Prop} {st : St} (hf : i.free = true) (h : i.vc P K st) : i.vc P (fun s => Out i st s ∧ K s) st := by
  have same : ∀ {d : Option Nat} {v : V}, hle (fun _ => False) (fun _ => False) st.hp (st.put d v).hp := fun {d v} => by rw [put_hp]; exact .refl _ _ _
  cases i with
  | lt d l => exact ⟨h.1, .quiet (fun t ht => gt_put ht) same, h.2⟩
  | frz t =>
    simp only [I.vc] at h ⊢
    split
    · next e => rw [if_pos e] at h; exact ⟨.quiet (fun _ _ => rfl) (.refl _ _ _), h⟩
    · next e =>
      rw [if_neg e] at h
      exact ⟨h.1, .quiet (fun u hu => if_neg fun e => hu (by simp [I.wr, e])) hle_fz, h.2⟩
  | nilv t es => exact ⟨.quiet (fun u hu => if_neg fun e => hu (by simp [I.wr, e])) (.refl _ _ _), h⟩
  | nilo t es r => cases hf
  | keep ts => cases hf
  | wk => cases hf
  | store ap n x v =>
    simp only [I.vc] at h ⊢
    split at h
    · next id tot i0 j ex =>
      split at h
      · next refs rows hgd =>
        refine ⟨h.1, h.2.1, h.2.2.1, h.2.2.2.1, h.2.2.2.2.1, ⟨fun _ _ => rfl, _, _, hle_mem (hid_of hgd), (fun e => by cases e), (fun _ k hk => hk.2 (by simp)), fun t ht k hk => ?_⟩, h.2.2.2.2.2⟩
        have : k ≠ id := fun e => h.1 t ht (by rw [hk, e])
        exact ⟨fun e => this e.1, this⟩
      · exact h.elim
    · exact h.elim
  | alloc d r n zero => exact ⟨h.1, h.2.1, .quiet (fun t ht => gt_put ht) (by rw [put_hp]; exact hle_set h.1), h.2.2⟩
  | box d r n x => exact ⟨h.1, h.2.1, .quiet (fun t ht => gt_put ht) (by rw [put_hp]; exact hle_set h.1), h.2.2⟩
  | bsv d es n zero parts => exact ⟨h.1, h.2.1, .quiet (fun t ht => gt_put ht) same, h.2.2⟩
  | bsl d r es n zero parts => exact ⟨h.1, h.2.1, h.2.2.1, .quiet (fun t ht => gt_put ht) (by rw [put_hp]; exact hle_set h.1), h.2.2.2⟩
  | app ap d r es bytes x y =>
    simp only [I.vc] at h ⊢
    split at h
    · next id es' off len tot ex =>
      split at h
      · next refs rows hgd =>
        obtain ⟨h0, h1, h2, h3, h4, h5, h6, h7⟩ := h
        refine ⟨h0, h1, h2, h3, h4, h5, h6, ⟨fun t ht => gt_put ht, _, _, (by rw [put_hp]; exact hle_mem (hid_of hgd)), (fun e => by cases e), (fun e => by cases e), fun t ht k hk => ?_⟩, h7⟩
        have : k ≠ id := fun e => h0 t ht (by rw [hk, e])
        exact ⟨fun e => this e.1, this⟩
      · exact h.elim
    · next ex =>
      obtain ⟨h1, h2, h3, h4, h5⟩ := h
      exact ⟨h1, h2, h3, h4, .quiet (fun t ht => gt_put ht) (by rw [put_hp]; exact hle_set h1), h5⟩
    · next ex =>
      obtain ⟨h0, h1, h2, h3, h4, h5⟩ := h
      refine ⟨h0, h1, h2, h3, h4, ?_⟩
      split
      · next e =>
        rw [if_pos e] at h5
        exact ⟨.quiet (fun t ht => gt_put ht) same, h5⟩
      · next e =>
        rw [if_neg e] at h5
        exact ⟨.quiet (fun t ht => gt_put ht) (by rw [put_hp]; exact hle_set h1), h5⟩
    · exact h.elim
  | call d f xs => exact ⟨h.1, DP.mono h.2 fun r hr => ⟨.quiet (fun t ht => gt_put ht) same, hr⟩⟩
  | callv d fv xs =>
    simp only [I.vc] at h ⊢
    split at h
    · next ex => exact ⟨h.1, h.2.1, DP.mono h.2.2 fun r hr => ⟨.quiet (fun t ht => gt_put ht) same, hr⟩⟩
    · exact h.elim
  | callm d fv xs => cases hf
  | callb d fv xs =>
    simp only [I.vc] at h ⊢
    split at h
    · next ex => exact ⟨h.1, h.2.1, DP.mono h.2.2 fun r hr => ⟨hr.1, .quiet (fun t ht => gt_put ht) same, hr.2⟩⟩
    · exact h.elim
  | callo d fv xs =>
    simp only [I.vc] at h ⊢
    split at h
    · next ex => exact ⟨h.1, h.2.1, DC.mono h.2.2 fun r H' hr => ⟨.quiet (fun t ht => gt_put ht) (by rw [put_hp]; exact hle_app), hr⟩⟩
    · exact h.elim
  | mkm d r => exact ⟨h.1, .quiet (fun t ht => gt_put ht) (by rw [put_hp]; exact hle_set h.1), h.2⟩
  | mup ap kd m key v =>
    simp only [I.vc] at h ⊢
    split at h
    · next id ex =>
      split at h
      · next refs es hgd =>
        refine ⟨h.1, h.2.1, h.2.2.1, ⟨fun _ _ => rfl, _, _, hle_map (get_of hgd (by simp)), (fun e => by cases e), (fun _ k hk => hk), fun t ht k hk => ?_⟩, h.2.2.2⟩
        have : k ≠ id := fun e => h.1 t ht (by rw [hk, e])
        exact ⟨fun e => e, this⟩
      · exact h.elim
    · exact h.elim
  | rng d r x => exact ⟨h.1, h.2.1, .quiet (fun t ht => gt_put ht) (by rw [put_hp]; exact hle_set h.1), h.2.2⟩
  | nxt d x =>
    simp only [I.vc] at h ⊢
    split at h
    · next id ex =>
      split at h
      · next s pos hgd =>
        split at h
        · next hlt => rw [if_pos hlt]; exact ⟨.quiet (fun t ht => gt_put ht) (by rw [put_hp]; exact hle_sit (get_of hgd (by simp))), h⟩
        · next hlt => rw [if_neg hlt]; exact ⟨.quiet (fun t ht => gt_put ht) same, h⟩
      · exact h.elim
    · exact h.elim
  | clr => cases hf
  | cpy => cases hf
  | mks => cases hf
  | pan => cases hf
  | calla ap d fv xs =>
    simp only [I.vc] at h ⊢
    split at h
    · next ex =>
      refine ⟨h.1, h.2.1, h.2.2.1, DC.mono h.2.2.2 fun r H' hr => ⟨⟨fun t ht => gt_put ht, _, _, (by rw [put_hp]; exact hle_merge h.2.1), (fun e => by cases e), (fun e => by cases e), fun t ht k hk => ⟨h.2.2.1 t ht k hk, h.2.2.1 t ht k hk⟩⟩, hr⟩⟩
    · exact h.elim

/-! Items: an operation, its guard, and what stands ahead of it. -/

def It.rd : It → List Nat
  | .g i => i.rd
  | .o _ i => i.rd
  | .gd _ s _ _ i => s :: i.rd
def It.wr : It → List Nat
  | .g i => i.wr
  | .o _ i => i.wr
  | .gd _ _ _ d i => d.toList ++ i.wr
def It.free : It → Bool
  | .g i | .o _ i | .gd _ _ _ _ i => i.free
def It.i : It → I
  | .g i | .o _ i | .gd _ _ _ _ i => i

def vcIt (P : Program) (it : It) (k : St → Prop) (st : St) : Prop := vcIts P [it] k st

theorem vcIts_cons {P : Program} {it : It} {l : List It} {k : St → Prop} {st : St} : vcIts P (it :: l) k st = vcIt P it (vcIts P l k) st := by
  cases it <;> rfl

theorem vcIt_mono {P : Program} {it : It} {K K' : St → Prop} {st : St} (h : vcIt P it K st) (hk : ∀ s, K s → K' s) : vcIt P it K' st := by
  cases it with
  | g i => exact I.vc_mono (i := i) h hk
  | o j i => exact I.vc_mono (i := i) h hk
  | gd j s want d i =>
    simp only [vcIt, vcIts] at h ⊢
    split at h
    · exact ⟨fun e => I.vc_mono (h.1 e) hk, fun e => hk _ (h.2 e)⟩
    · exact hk _ h
    · exact h.elim

theorem vcIts_mono {P : Program} : ∀ {l : List It} {K K' : St → Prop} {st : St}, vcIts P l K st → (∀ s, K s → K' s) → vcIts P l K' st := by
  intro l
  induction l with
  | nil => intro K K' st h hk; exact hk _ h
  | cons it l ih => intro K K' st h hk; rw [vcIts_cons] at h ⊢; exact vcIt_mono h fun s hs => ih hs hk

theorem vcIts_append {P : Program} : ∀ {l l' : List It} {K : St → Prop} {st : St}, vcIts P (l ++ l') K st = vcIts P l (vcIts P l' K) st := by
  intro l
  induction l with
  | nil => intro l' K st; rfl
  | cons it l ih =>
    intro l' K st
    rw [List.cons_append, vcIts_cons, vcIts_cons]
    congr 1
    funext s
    exact ih

theorem upGuard {st : St} {s : Nat} {b : Bool} (h : gt st.sl s = .a (.bool b)) : ({ st with sl := up st.sl s (.bool b) } : St) = st := by
  have : up st.sl s (.bool b) = st.sl := by
    funext t; simp only [up]; split
    · next e => subst e; exact h.symm
    · rfl
  rw [this]

theorem vcIt_put {P : Program} {it : It} {K : St → Prop} {st : St} {d : Nat} {v : V} (hf : it.free = true) (hr : d ∉ it.rd) (hw : d ∉ it.wr) (h : vcIt P it K (st.put (some d) v)) :
    vcIt P it (fun s => K (s.put (some d) v)) st := by
  cases it with
  | g i => exact I.vc_put (i := i) hf hr hw h
  | o j i => exact I.vc_put (i := i) hf hr hw h
  | gd j s want d' i =>
    simp only [It.rd, It.wr, List.mem_cons, List.mem_append, not_or] at hr hw
    have hs : gt (st.put (some d) v).sl s = gt st.sl s := if_neg hr.1
    simp only [vcIt, vcIts] at h ⊢
    rw [hs] at h
    have e2 : ∀ y, ({ st.put (some d) v with sl := up (st.put (some d) v).sl s y } : St) = ({ st with sl := up st.sl s y } : St).put (some d) v := by
      intro y
      simp only [St.put, St.mk.injEq, and_self, and_true]
      funext u
      simp only [up]
      have := hr.1
      by_cases a1 : s = u <;> by_cases a2 : d = u <;> simp_all
    split at h
    · next b e =>
      refine ⟨fun hb => ?_, fun hb => ?_⟩
      · have := h.1 hb
        rw [e2] at this
        exact I.vc_put hf hr.2 hw.2 this
      · have := h.2 hb
        rw [e2, put_comm hw.1] at this
        exact this
    · rw [put_comm hw.1] at h; exact h
    · exact h.elim

/-- What an item leaves as it was. -/
def OutIt (it : It) (st st' : St) : Prop :=
  (∀ t, t ∉ it.wr → gt st'.sl t = gt st.sl t) ∧ ∃ bl bc : Nat → Prop, hle bl bc st.hp st'.hp ∧ (it.i.quiet = true → ∀ k, ¬ bl k ∧ ¬ bc k) ∧ (it.i.isSt = true → ∀ k, ¬ bl k) ∧ ∀ t ∈ it.i.ap, ∀ k, (gt st.sl t).oid = some k → ¬ bl k ∧ ¬ bc k

theorem OutIt.none {it : It} {st st' : St} (h : ∀ t, t ∉ it.wr → gt st'.sl t = gt st.sl t) (hh : st'.hp = st.hp) : OutIt it st st' :=
  ⟨h, fun _ => False, fun _ => False, by rw [hh]; exact .refl _ _ _, fun _ _ => ⟨fun h => h, fun h => h⟩, fun _ _ h => h, fun _ _ _ _ => ⟨fun h => h, fun h => h⟩⟩

theorem vcIt_out {P : Program} {it : It} {K : St → Prop} {st : St} (hf : it.free = true) (h : vcIt P it K st) : vcIt P it (fun s => OutIt it st s ∧ K s) st := by
  cases it with
  | g i => exact I.vc_out (i := i) hf h
  | o j i => exact I.vc_out (i := i) hf h
  | gd j s want d i =>
    simp only [vcIt, vcIts] at h ⊢
    split at h
    · next b e =>
      refine ⟨fun hb => ?_, fun hb => ?_⟩
      · subst hb
        have := h.1 rfl
        rw [upGuard e] at this ⊢
        refine I.vc_mono (I.vc_out hf this) fun s' hs' => ⟨⟨fun t ht => hs'.1.1 t fun e => ht (by simp [It.wr, e]), hs'.1.2⟩, hs'.2⟩
      · have e' := e
        rw [hb] at e'
        have := h.2 hb
        rw [upGuard e'] at this ⊢
        exact ⟨.none (fun t ht => gt_put fun e => ht (by simp only [It.wr, List.mem_append]; exact .inl e)) (put_hp _ _ _), this⟩
    · exact ⟨.none (fun t ht => gt_put fun e => ht (by simp only [It.wr, List.mem_append]; exact .inl e)) (put_hp _ _ _), h⟩
    · exact h.elim

end Go.Abs

/- Regions whose order Go leaves open (2). -/
namespace Go.Abs
set_option linter.unusedVariables false

def It.light : It → Bool
  | .o _ (.lt _ _) => true
  | .o _ (.bsv ..) => true
  | .gd _ _ _ d (.lt d' _) => decide (d = d')
  | _ => false
def It.dst : It → Option Nat
  | .o _ (.lt d _) => d
  | .o _ (.bsv d _ _ _ _) => d
  | .gd _ _ _ d _ => d
  | _ => none
def It.hops : It → List Nat
  | .o _ (.lt _ l) => tmpsOf l.hops
  | .gd _ _ _ _ (.lt _ l) => tmpsOf l.hops
  | _ => []
def It.isLd : It → Bool
  | .o _ (.lt _ l) => l.isLd
  | .gd _ _ _ _ (.lt _ l) => l.isLd
  | _ => false

/-- May the light item y be taken behind x? -/
def indep (y x : It) : Bool :=
  y.light && x.free && y.dst.toList.all (fun d => !(x.rd.contains d) && !(x.wr.contains d)) && x.wr.all (fun t => !(y.rd.contains t)) && (x.i.quiet || (x.i.isSt && !y.isLd) || y.hops.all (x.i.ap.contains ·))

theorem hops_tmp {l : L} {st : St} {bl bc : Nat → Prop} (h : ∀ t ∈ tmpsOf l.hops, ∀ k, (gt st.sl t).oid = some k → ¬ bl k ∧ (l.isLd = true → ¬ bc k)) : ∀ x ∈ l.hops, ∀ k, (st.ev x).oid = some k → ¬ bl k ∧ (l.isLd = true → ¬ bc k) := by
  intro x hx k hk
  cases x with
  | tmp t => exact h t (tmpsOf_mem.2 hx) k hk
  | const v =>
    have hk : (cv v).oid = some k := hk
    unfold cv at hk
    split at hk
    · split at hk <;> cases hk
    · cases hk
  | global g => cases hk
  | func f => cases hk

theorem tmps_ev {l : List Operand} {st st' : St} (h : ∀ t ∈ tmpsOf l, gt st'.sl t = gt st.sl t) : ∀ x ∈ l, st'.ev x = st.ev x := by
  intro x hx
  cases x with
  | tmp t => exact h t (tmpsOf_mem.2 hx)
  | _ => rfl

theorem light_step {P : Program} {y : It} (hl : y.light = true) {K : St → Prop} {st : St} (h : vcIt P y K st) :
    ∃ v, K (st.put y.dst v) ∧ ∀ (st' : St), (∀ t ∈ y.rd, gt st'.sl t = gt st.sl t) → (∃ bl bc : Nat → Prop, hle bl bc st.hp st'.hp ∧ ∀ t ∈ y.hops, ∀ k, (gt st.sl t).oid = some k → ¬ bl k ∧ (y.isLd = true → ¬ bc k)) → ∀ K' : St → Prop, K' (st'.put y.dst v) → vcIt P y K' st' := by
  unfold It.light at hl
  split at hl
  · next j d l =>
    obtain ⟨h1, h2⟩ : l.pre st ∧ K (st.put d (l.val st)) := h
    refine ⟨l.val st, h2, fun st' hr hh K' hk => ?_⟩
    obtain ⟨bl, bc, hh1, hh2⟩ := hh
    obtain ⟨g1, g2⟩ := L.stable (tmps_ev hr) hh1 (hops_tmp hh2) h1
    exact ⟨g1, by rw [g2]; exact hk⟩
  · next j d es n zero parts =>
    obtain ⟨h1, h2, h3⟩ : zero.length = es ∧ (∀ p ∈ parts, V.idsL (st.ev p.2).cells = [] ∧ (st.ev p.2).sized st.hp es ∧ p.1 < n) ∧ K (st.put d (I.bsvV es n zero (parts.map fun (p : Nat × Operand) => (p.1 * es, es, st.ev p.2)))) := h
    refine ⟨_, h3, fun st' hr hh K' hk => ?_⟩
    obtain ⟨bl, bc, hh1, hh2⟩ := hh
    have hev : ∀ p ∈ parts, st'.ev p.2 = st.ev p.2 := fun p hp => tmps_ev (l := parts.map fun (p : Nat × Operand) => p.2) (st := st) (st' := st') (fun t ht => hr t ht) _ (List.mem_map.2 ⟨p, hp, rfl⟩)
    have hm : (parts.map fun (p : Nat × Operand) => (p.1 * es, es, st'.ev p.2)) = parts.map fun (p : Nat × Operand) => (p.1 * es, es, st.ev p.2) := List.map_congr_left fun p hp' => by rw [hev p hp']
    refine ⟨h1, fun p hp => ?_, by rw [hm]; exact hk⟩
    obtain ⟨g1, g2, g3⟩ := h2 p hp
    rw [hev p hp]
    exact ⟨g1, sized_le hh1 (fun k e => absurd e (cells_oid g1 k)) g2, g3⟩
  · next j s want d d' l =>
    obtain rfl : d = d' := by simpa using hl
    simp only [vcIt, vcIts] at h
    split at h
    · next b e =>
      by_cases hb : b = want
      · subst hb
        obtain ⟨h1, h2⟩ : l.pre _ ∧ K _ := h.1 rfl
        rw [upGuard e] at h1 h2
        refine ⟨l.val st, h2, fun st' hr hh K' hk => ?_⟩
        have e' : gt st'.sl s = .a (.bool b) := (hr s (by simp [It.rd])).trans e
        obtain ⟨bl, bc, hh1, hh2⟩ := hh
        obtain ⟨g1, g2⟩ := L.stable (st' := st') (tmps_ev fun t ht => hr t (by simp only [It.rd, List.mem_cons]; exact .inr ht)) hh1 (hops_tmp hh2) h1
        simp only [vcIt, vcIts, e']
        refine ⟨fun _ => ?_, fun hn => by cases b <;> simp at hn⟩
        rw [upGuard e']
        exact ⟨g1, by rw [g2]; exact hk⟩
      · have hb' : b = !want := by cases b <;> cases want <;> simp_all
        have h2 := h.2 hb'
        have e0 := e
        rw [hb'] at e0
        rw [upGuard e0] at h2
        refine ⟨.a undef, h2, fun st' hr hh K' hk => ?_⟩
        have e' : gt st'.sl s = .a (.bool b) := (hr s (by simp [It.rd])).trans e
        simp only [vcIt, vcIts, e']
        refine ⟨fun hn => (hb hn).elim, fun _ => ?_⟩
        rw [hb'] at e'
        rw [upGuard e']
        exact hk
    · next t e =>
      refine ⟨.a undef, h, fun st' hr hh K' hk => ?_⟩
      have e' : gt st'.sl s = .a (.tuple t) := (hr s (by simp [It.rd])).trans e
      simp only [vcIt, vcIts, e']
      exact hk
    · exact h.elim
  · cases hl

theorem swap {P : Program} {y x : It} (hi : indep y x = true) {K : St → Prop} {st : St} (h : vcIt P y (vcIt P x K) st) : vcIt P x (vcIt P y K) st := by
  simp only [indep, Bool.and_eq_true] at hi
  obtain ⟨⟨⟨⟨h1, h2⟩, h3⟩, h4⟩, h5⟩ := hi
  obtain ⟨v, hx, hy⟩ := light_step h1 h
  have hx' : vcIt P x (fun s => K (s.put y.dst v)) st := by
    cases hd : y.dst with
    | none => rw [hd] at hx; exact hx
    | some d =>
      rw [hd] at hx h3
      simp only [Option.toList_some, List.all_cons, List.all_nil, Bool.and_true, Bool.and_eq_true, Bool.not_eq_true', List.contains_eq_mem, decide_eq_false_iff_not] at h3
      exact vcIt_put h2 h3.1 h3.2 hx
  refine vcIt_mono (vcIt_out h2 hx') fun s hs => hy s (fun t ht => hs.1.1 t fun e => ?_) ?_ K hs.2
  · have := List.all_eq_true.1 h4 t e
    simp [ht] at this
  · obtain ⟨bl, bc, g1, g2, g3, g4⟩ := hs.1.2
    refine ⟨bl, bc, g1, fun t ht k hk => ?_⟩
    simp only [Bool.or_eq_true, Bool.and_eq_true, Bool.not_eq_true', List.all_eq_true, List.contains_eq_mem, decide_eq_true_eq] at h5
    rcases h5 with (h5 | h5) | h5
    · exact ⟨(g2 h5 k).1, fun _ => (g2 h5 k).2⟩
    · exact ⟨g3 h5.1 k, fun e => by rw [h5.2] at e; cases e⟩
    · exact ⟨(g4 t (h5 t ht) k hk).1, fun _ => (g4 t (h5 t ht) k hk).2⟩

/-- Fewer slots to keep away from. -/
def I.dropA (D : List Nat) : I → I
  | .store ap n x v => .store (ap.filter fun t => !D.contains t) n x v
  | .app ap d r es b x y => .app (ap.filter fun t => !D.contains t) d r es b x y
  | .mup ap kd m k v => .mup (ap.filter fun t => !D.contains t) kd m k v
  | .calla ap d fv xs => .calla (ap.filter fun t => !D.contains t) d fv xs
  | i => i
def It.dropA (D : List Nat) : It → It
  | .g i => .g (i.dropA D)
  | .o j i => .o j (i.dropA D)
  | .gd j s want d i => .gd j s want d (i.dropA D)

theorem I.vc_drop {P : Program} {i : I} {D : List Nat} {K : St → Prop} {st : St} (h : i.vc P K st) : (i.dropA D).vc P K st := by
  cases i <;> first | exact h | skip
  · next ap n x v =>
    simp only [I.vc, I.dropA] at h ⊢
    split at h
    · split at h
      · exact ⟨fun t ht => h.1 t ((List.mem_filter.1 ht).1), h.2⟩
      · exact h.elim
    · exact h.elim
  · next ap d r es b x y =>
    simp only [I.vc, I.dropA] at h ⊢
    split at h
    · split at h
      · exact ⟨fun t ht => h.1 t ((List.mem_filter.1 ht).1), h.2⟩
      · exact h.elim
    · exact h
    · exact h
    · exact h.elim
  · next ap kd m key v =>
    simp only [I.vc, I.dropA] at h ⊢
    split at h
    · split at h
      · exact ⟨fun t ht => h.1 t (List.mem_filter.1 ht).1, h.2⟩
      · exact h.elim
    · exact h.elim
  · next ap d fv xs =>
    simp only [I.vc, I.dropA] at h ⊢
    split at h
    · exact ⟨h.1, h.2.1, fun t ht => h.2.2.1 t (List.mem_filter.1 ht).1, h.2.2.2⟩
    · exact h.elim

theorem vcIt_drop {P : Program} {x : It} {D : List Nat} {K : St → Prop} {st : St} (h : vcIt P x K st) : vcIt P (x.dropA D) K st := by
  cases x with
  | g i => exact I.vc_drop (i := i) h
  | o j i => exact I.vc_drop (i := i) h
  | gd j s want d i =>
    simp only [vcIt, vcIts, It.dropA] at h ⊢
    split at h
    · exact ⟨fun e => I.vc_drop (h.1 e), h.2⟩
    · exact h
    · exact h.elim

theorem I.dropA_dropA {i : I} {D E : List Nat} : (i.dropA D).dropA E = i.dropA (E ++ D) := by
  cases i <;> simp [I.dropA, List.filter_filter]

theorem It.dropA_dropA {x : It} {D E : List Nat} : (x.dropA D).dropA E = x.dropA (E ++ D) := by
  cases x <;> simp [It.dropA, I.dropA_dropA]

/-- A new variable y, and what may be done ahead of it as well. -/
def swA (y x : It) : Bool :=
  match y, x with
  | .o _ (.alloc (some d) r _ _), .o _ (.alloc (some d') r' _ _) => decide (d ≠ d') && decide (r ≠ r')
  | .o _ (.alloc (some d) _ _ _), .o _ (.call d' _ xs) => !(tmpsOf xs).contains d && !d'.toList.contains d
  | .o _ (.alloc (some d) _ _ _), .o _ (.callv d' fv xs) => !(tmpsOf (fv :: xs)).contains d && !d'.toList.contains d
  | _, _ => false

theorem get_set_ne {H : Heap} {i j : Nat} {o : O} (h : i ≠ j) : (H.set i o)[j]? = H[j]? := by
  rw [List.getElem?_set]; simp [h]

theorem swapA {P : Program} {y x : It} (hi : swA y x = true) {K : St → Prop} {st : St} (h : vcIt P y (vcIt P x K) st) : vcIt P x (vcIt P y K) st := by
  unfold swA at hi
  split at hi
  · next d r n z j' d' r' n' z' =>
    simp only [Bool.and_eq_true, decide_eq_true_eq] at hi
    obtain ⟨h1, h2, h3, h4, h5⟩ := h
    change (St.put _ _ _).hp[_]? = _ at h3
    rw [put_hp] at h3
    change (st.hp.set _ _)[st.bs + r']? = _ at h3
    rw [get_set_ne (by omega)] at h3
    refine ⟨h3, h4, ?_, h2, ?_⟩
    · change (St.put _ _ _).hp[_]? = _
      rw [put_hp]
      change (st.hp.set _ _)[st.bs + r]? = _
      rw [get_set_ne (by omega)]; exact h1
    · have : ({ ({ st with hp := st.hp.set (st.bs + r) (.mem false [] [z]) } : St).put (some d) (.ptr (st.bs + r) 1 0 0) with hp := (({ st with hp := st.hp.set (st.bs + r) (.mem false [] [z]) } : St).put (some d) (.ptr (st.bs + r) 1 0 0)).hp.set (st.bs + r') (.mem false [] [z']) } : St).put (some d') (.ptr (st.bs + r') 1 0 0)
          = ({ ({ st with hp := st.hp.set (st.bs + r') (.mem false [] [z']) } : St).put (some d') (.ptr (st.bs + r') 1 0 0) with hp := (({ st with hp := st.hp.set (st.bs + r') (.mem false [] [z']) } : St).put (some d') (.ptr (st.bs + r') 1 0 0)).hp.set (st.bs + r) (.mem false [] [z]) } : St).put (some d) (.ptr (st.bs + r) 1 0 0) := by
        simp only [St.put, St.mk.injEq, and_true]
        refine ⟨?_, ?_⟩
        · funext t; simp only [up]; by_cases a1 : d' = t <;> by_cases a2 : d = t <;> simp_all
        · exact List.set_comm _ _ (by omega)
      exact this ▸ h5
  · next d r n z j' d' f xs =>
    simp only [Bool.and_eq_true, Bool.not_eq_true', List.contains_eq_mem, decide_eq_false_iff_not] at hi
    obtain ⟨h1, h2, h3, h4⟩ := h
    have hm : xs.map (({ st with hp := st.hp.set (st.bs + r) (.mem false [] [z]) } : St).put (some d) (.ptr (st.bs + r) 1 0 0)).ev = xs.map st.ev :=
      List.map_congr_left fun x hx => by rw [ev_put fun e => hi.1 (tmpsOf_mem.2 (e ▸ hx)), ev_hp]
    rw [hm] at h3 h4
    refine ⟨h3, DP.mono h4 fun r' hr' => ?_⟩
    refine ⟨by rw [put_hp]; cases d' <;> exact h1, h2, ?_⟩
    have hr'' : K _ := hr'
    rw [put_comm hi.2] at hr''
    cases d' <;> exact hr''
  · next d r n z j' d' fv xs =>
    simp only [Bool.and_eq_true, Bool.not_eq_true', List.contains_eq_mem, decide_eq_false_iff_not] at hi
    obtain ⟨h1, h2, h3⟩ := h
    have ht : ∀ x ∈ fv :: xs, x ≠ .tmp d := fun x hx e => hi.1 (tmpsOf_mem.2 (e ▸ hx))
    have hm : xs.map (({ st with hp := st.hp.set (st.bs + r) (.mem false [] [z]) } : St).put (some d) (.ptr (st.bs + r) 1 0 0)).ev = xs.map st.ev :=
      List.map_congr_left fun x hx => by rw [ev_put (ht x (by simp [hx])), ev_hp]
    have hf : (({ st with hp := st.hp.set (st.bs + r) (.mem false [] [z]) } : St).put (some d) (.ptr (st.bs + r) 1 0 0)).ev fv = st.ev fv := by rw [ev_put (ht fv (by simp)), ev_hp]
    change I.vc P (.callv d' fv xs) K _ at h3
    simp only [I.vc] at h3
    rw [hm, hf] at h3
    show I.vc P (.callv d' fv xs) _ _
    simp only [I.vc]
    split at h3
    · next ex =>
      refine ⟨h3.1, h3.2.1, DP.mono h3.2.2 fun r' hr' => ?_⟩
      refine ⟨by rw [put_hp]; cases d' <;> exact h1, h2, ?_⟩
      have hr'' : K _ := hr'
      rw [put_comm hi.2] at hr''
      cases d' <;> exact hr''
    · exact h3.elim
  · cases hi

/-! A number still kept free. -/
def resd (r : Nat) (st : St) : Prop := st.hp[st.bs + r]? = some .res

def I.rn : I → Option Nat
  | .alloc _ r _ _ | .box _ r _ _ | .bsl _ r _ _ _ _ | .app _ _ r _ _ _ _ | .mkm _ r | .rng _ r _ | .nilo _ _ r | .mks _ r _ _ _ _ => some r
  | _ => none
def It.resn : It → List Nat
  | .o _ (.alloc _ r _ _) => [r]
  | _ => []

theorem resd_put {r : Nat} {st : St} {d : Option Nat} {v : V} (h : resd r st) : resd r (st.put d v) := by
  cases d <;> exact h

theorem resd_set {r id : Nat} {st : St} {o o' : O} {d : Option Nat} {v : V} (h : resd r st) (hid : st.hp[id]? = some o) (ho : o ≠ .res) : resd r ({ st with hp := st.hp.set id o' }.put d v) := by
  have : resd r { st with hp := st.hp.set id o' } := by
    unfold resd at h ⊢
    show (st.hp.set id o')[st.bs + r]? = _
    rw [get_set_ne]
    · exact h
    · intro e; subst e; rw [hid] at h; injection h with h; exact ho h
  exact resd_put this

theorem resd_new {r r' : Nat} {st : St} {o' : O} {d : Option Nat} {v : V} (h : resd r st) (hr : some r' ≠ some r) : resd r ({ st with hp := st.hp.set (st.bs + r') o' }.put d v) := by
  have : resd r { st with hp := st.hp.set (st.bs + r') o' } := by
    unfold resd at h ⊢
    show (st.hp.set (st.bs + r') o')[st.bs + r]? = _
    rw [get_set_ne fun e => hr (by simp; omega)]
    exact h
  exact resd_put this

theorem I.vc_keep {P : Program} {i : I} {K : St → Prop} {st : St} {r : Nat} (hr : i.rn ≠ some r) (hs : resd r st) (h : i.vc P K st) : i.vc P (fun s => resd r s ∧ K s) st := by
  cases i with
  | lt d l => exact ⟨h.1, resd_put hs, h.2⟩
  | frz t =>
    simp only [I.vc] at h ⊢
    split
    · next e => rw [if_pos e] at h; exact ⟨hs, h⟩
    · next e =>
      rw [if_neg e] at h
      refine ⟨h.1, ?_, h.2⟩
      unfold resd at hs ⊢
      show (st.hp.fz _)[st.bs + r]? = _
      rw [Heap.fz_get, hs]
      simp only [Option.map_some, Option.some.injEq]
      split <;> rfl
  | nilv t es => exact ⟨hs, h⟩
  | nilo t es r' =>
    simp only [I.vc] at h ⊢
    split at h
    · exact ⟨h.1, resd_new (d := none) (v := .any) hs hr, h.2⟩
    · exact ⟨hs, h⟩
  | keep ts => exact ⟨hs, h⟩
  | wk =>
    obtain ⟨st', h1, h2⟩ := h
    refine ⟨st', h1, ?_, h2⟩
    unfold resd at hs ⊢
    rw [h1.1]; exact h1.2.1 _ hs
  | store ap n x v =>
    simp only [I.vc] at h ⊢
    split at h
    · split at h
      · next hgd => exact ⟨h.1, h.2.1, h.2.2.1, h.2.2.2.1, h.2.2.2.2.1, resd_set (d := none) (v := .any) hs (get_of hgd (by simp)) (by simp), h.2.2.2.2.2⟩
      · exact h.elim
    · exact h.elim
  | alloc d r' n zero => exact ⟨h.1, h.2.1, resd_new hs hr, h.2.2⟩
  | box d r' n x => exact ⟨h.1, h.2.1, resd_new hs hr, h.2.2⟩
  | bsl d r' es n zero parts => exact ⟨h.1, h.2.1, h.2.2.1, resd_new hs hr, h.2.2.2⟩
  | bsv d es n zero parts => exact ⟨h.1, h.2.1, resd_put hs, h.2.2⟩
  | app ap d r' es bytes x y =>
    simp only [I.vc] at h ⊢
    split at h
    · split at h
      · next hgd =>
        obtain ⟨h0, h1, h2, h3, h4, h5, h6, h7⟩ := h
        exact ⟨h0, h1, h2, h3, h4, h5, h6, resd_set hs (get_of hgd (by simp)) (by simp), h7⟩
      · exact h.elim
    · obtain ⟨h1, h2, h3, h4, h5⟩ := h
      exact ⟨h1, h2, h3, h4, resd_new hs hr, h5⟩
    · obtain ⟨h0, h1, h2, h3, h4, h5⟩ := h
      refine ⟨h0, h1, h2, h3, h4, ?_⟩
      split
      · next e =>
        rw [if_pos e] at h5
        exact ⟨resd_put hs, h5⟩
      · next e =>
        rw [if_neg e] at h5
        exact ⟨resd_new hs hr, h5⟩
    · exact h.elim
  | call d f xs => exact ⟨h.1, DP.mono h.2 fun r' hr' => ⟨resd_put hs, hr'⟩⟩
  | callv d fv xs =>
    simp only [I.vc] at h ⊢
    split at h
    · exact ⟨h.1, h.2.1, DP.mono h.2.2 fun r' hr' => ⟨resd_put hs, hr'⟩⟩
    · exact h.elim
  | callb d fv xs =>
    simp only [I.vc] at h ⊢
    split at h
    · exact ⟨h.1, h.2.1, DP.mono h.2.2 fun r' hr' => ⟨hr'.1, resd_put hs, hr'.2⟩⟩
    · exact h.elim
  | callo d fv xs =>
    simp only [I.vc] at h ⊢
    split at h
    · refine ⟨h.1, h.2.1, DC.mono h.2.2 fun r' H' hr' => ⟨resd_put ?_, hr'⟩⟩
      unfold resd at hs ⊢
      show (st.hp ++ _)[st.bs + r]? = _
      rw [List.getElem?_append_left (lt_of_get hs)]
      exact hs
    · exact h.elim
  | callm d fv xs =>
    simp only [I.vc] at h ⊢
    split at h
    · refine ⟨h.1, h.2.1, DC.mono h.2.2 fun r' H' hr' => ⟨resd_put ?_, hr'⟩⟩
      have hsel := h.2.1
      generalize clos st.hp 8 _ = sel at hsel ⊢
      unfold resd at hs ⊢
      show (merge st.hp sel H')[st.bs + r]? = _
      rw [merge_out (lt_of_get hs)]
      · exact hs
      · intro hm
        exact hsel.nres _ hm (getD_some hs)
    · exact h.elim
  | mkm d r' => exact ⟨h.1, resd_new hs hr, h.2⟩
  | mup ap kd m key v =>
    simp only [I.vc] at h ⊢
    split at h
    · split at h
      · next hgd => exact ⟨h.1, h.2.1, h.2.2.1, resd_set (d := none) (v := .any) hs (get_of hgd (by simp)) (by simp), h.2.2.2⟩
      · exact h.elim
    · exact h.elim
  | rng d r' x => exact ⟨h.1, h.2.1, resd_new hs hr, h.2.2⟩
  | nxt d x =>
    simp only [I.vc] at h ⊢
    split at h
    · split at h
      · next hgd =>
        split at h
        · next hlt => rw [if_pos hlt]; exact ⟨resd_set hs (get_of hgd (by simp)) (by simp), h⟩
        · next hlt => rw [if_neg hlt]; exact ⟨resd_put hs, h⟩
      · exact h.elim
    · exact h.elim
  | calla ap d fv xs =>
    simp only [I.vc] at h ⊢
    split at h
    · refine ⟨h.1, h.2.1, h.2.2.1, DC.mono h.2.2.2 fun r' H' hr' => ⟨resd_put ?_, hr'⟩⟩
      have hsel := h.2.1
      generalize clos st.hp 8 _ = sel at hsel ⊢
      unfold resd at hs ⊢
      show (merge st.hp sel H')[st.bs + r]? = _
      rw [merge_out (lt_of_get hs)]
      · exact hs
      · intro hm
        exact hsel.nres _ hm (getD_some hs)
    · exact h.elim
  | clr d es zero x =>
    simp only [I.vc] at h ⊢
    split at h
    · split at h
      · next hgd => exact ⟨h.1, h.2.1, h.2.2.1, h.2.2.2.1, resd_set hs (get_of hgd (by simp)) (by simp), h.2.2.2.2⟩
      · exact h.elim
    · exact ⟨resd_put hs, h⟩
    · exact h.elim
  | cpy d es x y =>
    simp only [I.vc] at h ⊢
    split at h
    · split at h
      · next hgd => exact ⟨h.1, h.2.1, h.2.2.1, h.2.2.2.1, h.2.2.2.2.1, h.2.2.2.2.2.1, resd_set hs (get_of hgd (by simp)) (by simp), h.2.2.2.2.2.2⟩
      · exact h.elim
    · exact h.elim
  | mks d r' es bytes zero n => exact ⟨h.1, h.2.1, h.2.2.1, h.2.2.2.1, h.2.2.2.2.1, resd_new hs hr, h.2.2.2.2.2⟩
  | pan => exact h.elim

theorem resd_guard {st : St} {s r : Nat} {y : V} (h : resd r st) : resd r { st with sl := up st.sl s y } := h

theorem vcIt_keep {P : Program} {it : It} {K : St → Prop} {st : St} {r : Nat} (hr : it.i.rn ≠ some r) (hs : resd r st) (h : vcIt P it K st) : vcIt P it (fun s => resd r s ∧ K s) st := by
  cases it with
  | g i => exact I.vc_keep (i := i) hr hs h
  | o j i => exact I.vc_keep (i := i) hr hs h
  | gd j s want d i =>
    simp only [vcIt, vcIts] at h ⊢
    split at h
    · exact ⟨fun e => I.vc_keep hr (resd_guard hs) (h.1 e), fun e => ⟨resd_put (resd_guard hs), h.2 e⟩⟩
    · exact ⟨resd_put hs, h⟩
    · exact h.elim

/-! A number kept free, taken for a new variable. -/
section
variable {H : Heap} {q : Nat} {z : List V} (hq : H[q]? = some .res)
include hq
theorem newv_getD {k : Nat} (hk : H.getD k .dead ≠ .res) : (H.set q (.mem false [] [z])).getD k .dead = H.getD k .dead := by
  have : k ≠ q := fun e => hk (by rw [e]; exact getD_some hq)
  simp only [List.getD, getElem?_set_ne' this]
theorem newv_refs (k : Nat) : ((H.set q (.mem false [] [z])).getD k .dead).refs = (H.getD k .dead).refs := by
  by_cases e : k = q
  · subst e; rw [getD_some hq, getD_some (get_set hq)]; rfl
  · simp only [List.getD, getElem?_set_ne' e]
theorem newv_clos : ∀ (n : Nat) (l : List Nat), clos (H.set q (.mem false [] [z])) n l = clos H n l
  | 0, _ => rfl
  | n + 1, l => by
    simp only [clos]
    have : (l.flatMap fun i => ((H.set q (.mem false [] [z])).getD i .dead).refs) = l.flatMap fun i => (H.getD i .dead).refs := by
      congr 1; funext i; exact newv_refs hq i
    rw [this]; exact newv_clos n _
theorem newv_notin {sel : List Nat} (ok : OkSel H sel) : q ∉ sel := fun h => ok.nres q h (getD_some hq)
theorem newv_ok {sel : List Nat} (ok : OkSel H sel) : OkSel (H.set q (.mem false [] [z])) sel :=
  ⟨ok.nd, fun i hi => by rw [List.length_set]; exact ok.lt i hi, fun i hi => by rw [newv_getD hq (ok.nres i hi)]; exact ok.nres i hi, fun i hi k hk => by rw [newv_refs hq] at hk; exact ok.cl i hi k hk⟩
theorem newv_sub {sel : List Nat} (ok : OkSel H sel) : sub (H.set q (.mem false [] [z])) sel = sub H sel :=
  List.map_congr_left fun i hi => by rw [newv_getD hq (ok.nres i hi)]
omit hq in
theorem newv_place {o : O} : ∀ (sel : List Nat) (os : List O) (H : Heap), q ∉ sel → place (H.set q o) sel os = (place H sel os).set q o
  | [], _, _, _ => by simp [place]
  | _ :: _, [], _, _ => by simp [place]
  | i :: is, x :: os, H, h => by
    simp only [place]
    rw [List.set_comm _ _ (show q ≠ i from fun e => h (by simp [e]))]
    exact newv_place is os _ fun e => h (by simp [e])
theorem newv_merge {sel : List Nat} (ok : OkSel H sel) (H' : Heap) : merge (H.set q (.mem false [] [z])) sel H' = (merge H sel H').set q (.mem false [] [z]) := by
  unfold merge
  rw [newv_place sel _ _ (newv_notin hq ok), List.length_set, List.set_append, if_pos (by rw [place_length]; exact lt_of_get hq)]
end

/-- A call y, and a new variable x that may be made ahead of it as well. -/
def swC (y x : It) : Bool :=
  match y, x with
  | .o _ (.call d _ xs), .o _ (.alloc (some d') _ n zero) => !(tmpsOf xs).contains d' && !d.toList.contains d' && decide (zero.length = n)
  | .o _ (.callv d fv xs), .o _ (.alloc (some d') _ n zero) => !(tmpsOf (fv :: xs)).contains d' && !d.toList.contains d' && decide (zero.length = n)
  | .o _ (.calla _ d fv xs), .o _ (.alloc (some d') _ n zero) => !(tmpsOf (fv :: xs)).contains d' && !d.toList.contains d' && decide (zero.length = n)
  | .o _ (.app _ d r0 _ _ a b), .o _ (.alloc (some d') r n zero) => !(tmpsOf [a, b]).contains d' && !d.toList.contains d' && decide (zero.length = n) && decide (r0 ≠ r)
  | _, _ => false

theorem swapC_calla {P : Program} {ap : List Nat} {d : Option Nat} {fv : Operand} {xs : List Operand} {j j' d' r n : Nat} {z : List V} {K : St → Prop} {st : St}
    (hi : (!(tmpsOf (fv :: xs)).contains d' && !d.toList.contains d' && decide (z.length = n)) = true) (hres : ∀ r' ∈ (It.o j' (.alloc (some d') r n z)).resn, resd r' st)
    (h : vcIt P (.o j (.calla ap d fv xs)) (vcIt P (.o j' (.alloc (some d') r n z)) K) st) : vcIt P (.o j' (.alloc (some d') r n z)) (vcIt P (.o j (.calla ap d fv xs)) K) st := by
  simp only [Bool.and_eq_true, Bool.not_eq_true', List.contains_eq_mem, decide_eq_false_iff_not, decide_eq_true_eq] at hi
  have hq : st.hp[st.bs + r]? = some .res := hres r (by simp [It.resn])
  have ht : ∀ x ∈ fv :: xs, x ≠ .tmp d' := fun x hx e => hi.1.1 (tmpsOf_mem.2 (e ▸ hx))
  obtain ⟨st1, hst1⟩ : ∃ st1, st1 = (({ st with hp := st.hp.set (st.bs + r) (.mem false [] [z]) } : St).put (some d') (.ptr (st.bs + r) 1 0 0)) := ⟨_, rfl⟩
  have hm : xs.map st1.ev = xs.map st.ev := List.map_congr_left fun x hx => by rw [hst1, ev_put (ht x (by simp [hx])), ev_hp]
  have hf : st1.ev fv = st.ev fv := by rw [hst1, ev_put (ht fv (by simp)), ev_hp]
  have eh : st1.hp = st.hp.set (st.bs + r) (.mem false [] [z]) := by rw [hst1]; rfl
  have fin : ∀ (M : Heap) (v : V), vcIt P (.o j' (.alloc (some d') r n z)) K ({ st with hp := M }.put d v) → K ({ st1 with hp := M.set (st.bs + r) (.mem false [] [z]) }.put d v) := fun M v hk => by
    obtain ⟨_, _, hk⟩ := hk
    have : ({ st1 with hp := M.set (st.bs + r) (.mem false [] [z]) } : St).put d v = ({ (({ st with hp := M } : St).put d v) with hp := (({ st with hp := M } : St).put d v).hp.set (st.bs + r) (.mem false [] [z]) } : St).put (some d') (.ptr (st.bs + r) 1 0 0) := by
      rw [hst1]
      cases d with
      | none => rfl
      | some d =>
        have hne2 : d ≠ d' := by simpa using fun e => hi.1.2 (by simp [e])
        simp only [St.put, St.mk.injEq, and_true]
        funext t; simp only [up]; by_cases a1 : d' = t <;> by_cases a2 : d = t <;> simp_all
    rw [this]
    cases d <;> exact hk
  change I.vc P (.calla ap d fv xs) _ _ at h
  refine ⟨hq, hi.2, ?_⟩
  show I.vc P (.calla ap d fv xs) K _
  rw [← hst1]
  have hgd : gt st1.sl d' = .ptr (st.bs + r) 1 0 0 := by rw [hst1]; simp [St.put, gt_up]
  have hgo : ∀ t, t ≠ d' → gt st1.sl t = gt st.sl t := fun t e => by rw [hst1, gt_put (by simpa using e)]
  clear hst1
  simp only [I.vc] at h ⊢
  rw [hm, hf]
  split at h
  · next f fs cs ex =>
    generalize fs ++ xs.map st.ev ++ cs = zs at h ⊢
    rw [eh, newv_clos hq]
    obtain ⟨sel, hsel⟩ : ∃ sel, sel = clos st.hp 8 (addAll [] (V.idsL zs)) := ⟨_, rfl⟩
    rw [← hsel] at h ⊢
    obtain ⟨h1, h2, h3, h4⟩ := h
    have hn := newv_notin hq h2
    refine ⟨h1, newv_ok hq h2, ?_, ?_⟩
    · intro t ht' k hk
      by_cases e : t = d'
      · subst e
        rw [hgd] at hk
        injection hk with hk
        exact hk ▸ hn
      · rw [hgo t e] at hk
        exact h3 t ht' k hk
    · rw [newv_sub hq h2]
      refine DC.mono h4 fun r' H' hr' => ?_
      rw [newv_merge hq h2, List.length_set]
      exact fin _ _ hr'
  · exact h.elim
theorem swapC_app {P : Program} {ap : List Nat} {d : Option Nat} {a b : Operand} {r0 es bytes j j' d' r n : Nat} {z : List V} {K : St → Prop} {st : St}
    (hi : (!(tmpsOf [a, b]).contains d' && !d.toList.contains d' && decide (z.length = n) && decide (r0 ≠ r)) = true) (hres : ∀ r' ∈ (It.o j' (.alloc (some d') r n z)).resn, resd r' st)
    (h : vcIt P (.o j (.app ap d r0 es bytes a b)) (vcIt P (.o j' (.alloc (some d') r n z)) K) st) : vcIt P (.o j' (.alloc (some d') r n z)) (vcIt P (.o j (.app ap d r0 es bytes a b)) K) st := by
  simp only [Bool.and_eq_true, Bool.not_eq_true', List.contains_eq_mem, decide_eq_false_iff_not, decide_eq_true_eq] at hi
  obtain ⟨⟨⟨hi1, hi2⟩, hi3⟩, hi4⟩ := hi
  have hq : st.hp[st.bs + r]? = some .res := hres r (by simp [It.resn])
  have ht : ∀ x ∈ [a, b], x ≠ .tmp d' := fun x hx e => hi1 (tmpsOf_mem.2 (e ▸ hx))
  obtain ⟨st1, hst1⟩ : ∃ st1, st1 = (({ st with hp := st.hp.set (st.bs + r) (.mem false [] [z]) } : St).put (some d') (.ptr (st.bs + r) 1 0 0)) := ⟨_, rfl⟩
  have ea : st1.ev a = st.ev a := by rw [hst1, ev_put (ht a (by simp)), ev_hp]
  have eb : st1.ev b = st.ev b := by rw [hst1, ev_put (ht b (by simp)), ev_hp]
  have eh : st1.hp = st.hp.set (st.bs + r) (.mem false [] [z]) := by rw [hst1]; rfl
  have es' : st1.bs = st.bs := by rw [hst1]; rfl
  have hle := hle_set (o := .mem false [] [z]) hq
  have hrr : okSl st.hp (st.ev b) → okSl st1.hp (st.ev b) ∧ (st.ev b).rowsOf st1.hp = (st.ev b).rowsOf st.hp ∧ (st.ev b).rowIds st1.hp = (st.ev b).rowIds st.hp := fun h => by
    rw [eh]
    refine ⟨okSl_le hle (fun _ _ => not_false) h, rowsOf_le hle (fun _ _ => not_false) (fun _ _ => not_false) h, ?_⟩
    generalize st.ev b = y
    cases y <;> first | rfl | exact newv_refs hq _
  have h0 : st1.hp[st1.bs + r0]? = st.hp[st.bs + r0]? := by rw [eh, es']; exact getElem?_set_ne' (by omega)
  have fin : ∀ (id : Nat) (o : O) (v : V), id ≠ st.bs + r → vcIt P (.o j' (.alloc (some d') r n z)) K ({ st with hp := st.hp.set id o }.put d v) → K ({ st1 with hp := st1.hp.set id o }.put d v) := fun id o v hne hk => by
    obtain ⟨_, _, hk⟩ := hk
    have : ({ st1 with hp := st1.hp.set id o } : St).put d v = ({ (({ st with hp := st.hp.set id o } : St).put d v) with hp := (({ st with hp := st.hp.set id o } : St).put d v).hp.set (st.bs + r) (.mem false [] [z]) } : St).put (some d') (.ptr (st.bs + r) 1 0 0) := by
      rw [hst1]
      cases d with
      | none => simp only [St.put, List.set_comm _ _ hne]
      | some d =>
        have hne2 : d ≠ d' := by simpa using fun e => hi2 (by simp [e])
        simp only [St.put, St.mk.injEq, and_true]
        refine ⟨?_, List.set_comm _ _ (fun e => hne e.symm)⟩
        funext t; simp only [up]; by_cases a1 : d' = t <;> by_cases a2 : d = t <;> simp_all
    rw [this]
    cases d <;> exact hk
  change I.vc P (.app ap d r0 es bytes a b) _ _ at h
  refine ⟨hq, hi3, ?_⟩
  show I.vc P (.app ap d r0 es bytes a b) K _
  rw [← hst1]
  simp only [I.vc] at h ⊢
  rw [ea, eb]
  have hgd : gt st1.sl d' = .ptr (st.bs + r) 1 0 0 := by rw [hst1]; simp [St.put, gt_up]
  have hgo : ∀ t, t ≠ d' → gt st1.sl t = gt st.sl t := fun t e => by rw [hst1, gt_put (by simpa using e)]
  split at h
  · next id es2 off len tot exa =>
    split at h
    · next fz refs rows eo =>
      obtain ⟨a1, a2, a3, a4, a5, a6, a7, a8⟩ := h
      obtain ⟨b1, b2, b3⟩ := hrr a5
      have hnr : st.hp.getD id .dead ≠ .res := by rw [eo]; simp
      have hne : id ≠ st.bs + r := fun e => hnr (by rw [e]; exact getD_some hq)
      have eo1 : st1.hp.getD id .dead = .mem false refs rows := by rw [eh, newv_getD hq hnr, eo]
      rw [eo1]
      simp only []
      refine ⟨fun t ht' => ?_, a2, a3, a4, b1, a6, a7, ?_⟩
      · by_cases e : t = d'
        · subst e; rw [hgd]; simp only [V.oid, ne_eq, Option.some.injEq]; exact fun e => hne e.symm
        · rw [hgo t e]; exact a1 t ht'
      · rw [b2, b3]; exact fin _ _ _ hne a8
    · exact h.elim
  · next exa =>
    obtain ⟨a1, a2, a3, a4, a5⟩ := h
    obtain ⟨b1, b2, b3⟩ := hrr a2
    refine ⟨by rw [h0]; exact a1, b1, a3, a4, ?_⟩
    have q := fin _ _ _ (by omega) a5
    rw [es'] at q; rw [b2, b3, es']; exact q
  · next es2 exa =>
    obtain ⟨a0, a1, a2, a3, a4, a5⟩ := h
    obtain ⟨b1, b2, b3⟩ := hrr a2
    refine ⟨a0, by rw [h0]; exact a1, b1, a3, a4, ?_⟩
    rw [b2, b3, es']
    split at a5
    · next hem =>
      rw [if_pos hem]
      obtain ⟨_, _, hk⟩ := a5
      have : st1.put d (.nul es) = ({ (st.put d (.nul es)) with hp := (st.put d (.nul es)).hp.set (st.bs + r) (.mem false [] [z]) } : St).put (some d') (.ptr (st.bs + r) 1 0 0) := by
        rw [hst1]
        cases d with
        | none => rfl
        | some d => rw [put_comm (by simpa using hi2)]; rfl
      rw [this]
      cases d <;> exact hk
    · next hem =>
        have q := fin _ _ _ (by omega) a5
        rw [es'] at q; rw [if_neg hem]; exact q
  · exact h.elim

theorem swapC {P : Program} {y x : It} (hi : swC y x = true) {K : St → Prop} {st : St} (hres : ∀ r ∈ x.resn, resd r st) (h : vcIt P y (vcIt P x K) st) : vcIt P x (vcIt P y K) st := by
  unfold swC at hi
  split at hi
  · next d f xs j' d' r n z =>
    simp only [Bool.and_eq_true, Bool.not_eq_true', List.contains_eq_mem, decide_eq_false_iff_not, decide_eq_true_eq] at hi
    obtain ⟨h1, h2⟩ := h
    have hm : xs.map (({ st with hp := st.hp.set (st.bs + r) (.mem false [] [z]) } : St).put (some d') (.ptr (st.bs + r) 1 0 0)).ev = xs.map st.ev :=
      List.map_congr_left fun x hx => by rw [ev_put fun e => hi.1.1 (tmpsOf_mem.2 (e ▸ hx)), ev_hp]
    refine ⟨hres r (by simp [It.resn]), hi.2, ?_, ?_⟩
    · rw [hm]; exact h1
    · rw [hm]
      refine DP.mono h2 fun r' hr' => ?_
      obtain ⟨_, _, hr'⟩ := hr'
      show K _
      rw [put_comm hi.1.2]
      cases d <;> exact hr'
  · next d fv xs j' d' r n z =>
    simp only [Bool.and_eq_true, Bool.not_eq_true', List.contains_eq_mem, decide_eq_false_iff_not, decide_eq_true_eq] at hi
    have ht : ∀ x ∈ fv :: xs, x ≠ .tmp d' := fun x hx e => hi.1.1 (tmpsOf_mem.2 (e ▸ hx))
    have hm : xs.map (({ st with hp := st.hp.set (st.bs + r) (.mem false [] [z]) } : St).put (some d') (.ptr (st.bs + r) 1 0 0)).ev = xs.map st.ev :=
      List.map_congr_left fun x hx => by rw [ev_put (ht x (by simp [hx])), ev_hp]
    have hf : (({ st with hp := st.hp.set (st.bs + r) (.mem false [] [z]) } : St).put (some d') (.ptr (st.bs + r) 1 0 0)).ev fv = st.ev fv := by rw [ev_put (ht fv (by simp)), ev_hp]
    change I.vc P (.callv d fv xs) _ _ at h
    refine ⟨hres r (by simp [It.resn]), hi.2, ?_⟩
    show I.vc P (.callv d fv xs) K _
    simp only [I.vc] at h ⊢
    rw [hm, hf]
    split at h
    · refine ⟨h.1, h.2.1, DP.mono h.2.2 fun r' hr' => ?_⟩
      obtain ⟨_, _, hr'⟩ := hr'
      show K _
      rw [put_comm hi.1.2]
      cases d <;> exact hr'
    · exact h.elim
  · exact swapC_calla hi hres h
  · exact swapC_app hi hres h
  · cases hi

/-- The numbers that the items of a group need, free. -/
def allres (Y : List It) (st : St) : Prop := ∀ y ∈ Y, ∀ r ∈ y.resn, resd r st
/-- Does no item of X use up a number that one of Y needs? -/
def norn (X Y : List It) : Bool := X.all fun x => Y.all fun y => y.resn.all fun r => decide (x.i.rn ≠ some r)

theorem allres_keep {P : Program} {it : It} {K : St → Prop} {st : St} : ∀ (Y : List Nat), (∀ r ∈ Y, it.i.rn ≠ some r) → (∀ r ∈ Y, resd r st) → vcIt P it K st → vcIt P it (fun s => (∀ r ∈ Y, resd r s) ∧ K s) st := by
  intro Y
  induction Y with
  | nil => intro _ _ h; exact vcIt_mono h fun s hs => ⟨fun r hr => by simp at hr, hs⟩
  | cons r Y ih =>
    intro hr hs h
    have h1 := ih (fun r' h' => hr r' (by simp [h'])) (fun r' h' => hs r' (by simp [h'])) h
    refine vcIt_mono (vcIt_keep (hr r (by simp)) (hs r (by simp)) h1) fun s hs => ⟨fun r' h' => ?_, hs.2.2⟩
    rcases List.mem_cons.1 h' with rfl | h'
    · exact hs.1
    · exact hs.2.1 r' h'

theorem keepX {P : Program} {it : It} {Y : List It} {K : St → Prop} {st : St} (hn : norn [it] Y = true) (hs : allres Y st) (h : vcIt P it K st) : vcIt P it (fun s => allres Y s ∧ K s) st := by
  simp only [norn, List.all_cons, List.all_nil, Bool.and_true, List.all_eq_true, decide_eq_true_eq] at hn
  have := allres_keep (P := P) (K := K) (Y.flatMap It.resn) (fun r hr => by
    obtain ⟨y, hy, hr⟩ := List.mem_flatMap.1 hr
    exact hn y hy r hr) (fun r hr => by
    obtain ⟨y, hy, hr⟩ := List.mem_flatMap.1 hr
    exact hs y hy r hr) h
  exact vcIt_mono this fun s hs => ⟨fun y hy r hr => hs.1 r (List.mem_flatMap.2 ⟨y, hy, hr⟩), hs.2⟩

theorem keepXs {P : Program} {Y : List It} {K : St → Prop} : ∀ {X : List It} {st : St}, norn X Y = true → allres Y st → vcIts P X K st → vcIts P X (fun s => allres Y s ∧ K s) st := by
  intro X
  induction X with
  | nil => intro st _ hs h; exact ⟨hs, h⟩
  | cons x X ih =>
    intro st hn hs h
    have hn' : norn [x] Y = true ∧ norn X Y = true := by simp only [norn, List.all_cons, List.all_nil, Bool.and_true, Bool.and_eq_true] at hn ⊢; exact hn
    rw [vcIts_cons] at h ⊢
    exact vcIt_mono (keepX hn'.1 hs h) fun s hs => ih hn'.2 hs.1 hs.2

/-- May y be taken behind x, x then keeping away from fewer? -/
def indep' (y x : It) : Bool := indep y (x.dropA y.dst.toList) || (swA y x && decide (y.dst = none))

theorem swap' {P : Program} {y x : It} (hi : indep' y x = true) {K : St → Prop} {st : St} (h : vcIt P y (vcIt P x K) st) : vcIt P (x.dropA y.dst.toList) (vcIt P y K) st := by
  simp only [indep', Bool.or_eq_true, Bool.and_eq_true] at hi
  rcases hi with hi | hi
  · exact swap hi (vcIt_mono h fun s hs => vcIt_drop hs)
  · exact vcIt_drop (swapA hi.1 h)

/-- May y be taken behind the group X? -/
def passes (y : It) (X : List It) : Prop := (∀ x ∈ X, indep' y x = true) ∨ ∃ x, X = [x] ∧ swC y x = true
def passesB (y : It) (X : List It) : Bool := X.all (indep' y) || (match X with | [x] => swC y x | _ => false)

theorem passes_of {y : It} {X : List It} (h : passesB y X = true) : passes y X := by
  unfold passesB at h
  simp only [Bool.or_eq_true] at h
  rcases h with h | h
  · exact .inl (List.all_eq_true.1 h)
  · split at h
    · exact .inr ⟨_, rfl, h⟩
    · cases h

theorem swC_dst {y x : It} (h : swC y x = true) : y.dst = none ∧ ∀ D, x.dropA D = x := by
  unfold swC at h
  split at h <;> first | exact ⟨rfl, fun _ => rfl⟩ | cases h

theorem swapL {P : Program} {y : It} {K : St → Prop} : ∀ {X : List It} {st : St}, (∀ x ∈ X, indep' y x = true) → vcIt P y (vcIts P X K) st → vcIts P (X.map (·.dropA y.dst.toList)) (vcIt P y K) st := by
  intro X
  induction X with
  | nil => intro st _ h; exact h
  | cons x X ih =>
    intro st hX h
    have h' : vcIt P y (vcIt P x (vcIts P X K)) st := vcIt_mono h fun s hs => by rw [vcIts_cons] at hs; exact hs
    rw [List.map_cons, vcIts_cons]
    exact vcIt_mono (swap' (hX x (by simp)) h') fun s hs => ih (fun z hz => hX z (by simp [hz])) hs

abbrev GL := List (Nat × List It)
def flat (c : GL) : List It := c.flatMap (·.2)
def dsts (c : GL) : List Nat := (flat c).flatMap fun y => y.dst.toList

def okPair (ops : Array Oper) (dep : Nat → Nat → Bool) (y x : Nat × List It) : Prop :=
  (dep x.1 y.1 = true ∨ ∃ it, y.2 = [it] ∧ passes it x.2) ∧ (norn y.2 x.2 = true ∧ norn x.2 y.2 = true) ∧ ∀ it ∈ y.2, ∀ x' ∈ x.2, ∀ d ∈ x'.dst.toList, d ∉ it.hops

theorem dropA_wr {D : List Nat} {x : It} : (x.dropA D).wr = x.wr := by cases x with | g i => cases i <;> rfl | o j i => cases i <;> rfl | gd j s want d i => cases i <;> rfl
theorem dropA_free {D : List Nat} {x : It} : (x.dropA D).free = x.free := by cases x with | g i => cases i <;> rfl | o j i => cases i <;> rfl | gd j s want d i => cases i <;> rfl
theorem dropA_quiet {D : List Nat} {x : It} : (x.dropA D).i.quiet = x.i.quiet := by cases x with | g i => cases i <;> rfl | o j i => cases i <;> rfl | gd j s want d i => cases i <;> rfl
theorem dropA_isSt {D : List Nat} {x : It} : (x.dropA D).i.isSt = x.i.isSt := by cases x with | g i => cases i <;> rfl | o j i => cases i <;> rfl | gd j s want d i => cases i <;> rfl
theorem dropA_ap {D : List Nat} {x : It} : (x.dropA D).i.ap = x.i.ap.filter fun t => !D.contains t := by cases x with | g i => cases i <;> rfl | o j i => cases i <;> rfl | gd j s want d i => cases i <;> rfl
theorem I.dropA_rd {D : List Nat} {i : I} {t : Nat} (h : t ∈ (i.dropA D).rd) : t ∈ i.rd := by
  cases i <;> first | exact h | skip
  all_goals
    simp only [I.dropA, I.rd, List.mem_append] at h ⊢
    rcases h with h | h
    · exact .inl ((List.mem_filter.1 h).1)
    · exact .inr h
theorem dropA_rd {D : List Nat} {x : It} {t : Nat} (h : t ∈ (x.dropA D).rd) : t ∈ x.rd := by
  cases x with
  | g i => exact I.dropA_rd (i := i) h
  | o j i => exact I.dropA_rd (i := i) h
  | gd j s want d i =>
    simp only [It.dropA, It.rd, List.mem_cons] at h ⊢
    rcases h with h | h
    · exact .inl h
    · exact .inr (I.dropA_rd h)
theorem dropA_comm {D E : List Nat} {x : It} : (x.dropA D).dropA E = (x.dropA E).dropA D := by
  have : ∀ i : I, (i.dropA D).dropA E = (i.dropA E).dropA D := fun i => by
    cases i <;> simp only [I.dropA, List.filter_filter, Bool.and_comm]
  cases x <;> simp only [It.dropA, this]

theorem swA_drop {D : List Nat} {y x : It} (h : swA y x = true) : swA y (x.dropA D) = true := by
  unfold swA at h
  split at h <;> first | exact h | cases h

theorem indep_drop {D : List Nat} {y x : It} (h : indep' y x = true) (hd : ∀ d ∈ D, d ∉ y.hops) : indep' y (x.dropA D) = true := by
  simp only [indep', Bool.or_eq_true, Bool.and_eq_true] at h ⊢
  rcases h with h | h
  · refine .inl ?_
    rw [dropA_comm]
    generalize x.dropA y.dst.toList = x at h
    simp only [indep, Bool.and_eq_true] at h ⊢
    obtain ⟨⟨⟨⟨h1, h2⟩, h3⟩, h4⟩, h5⟩ := h
    rw [dropA_free, dropA_wr, dropA_quiet, dropA_isSt, dropA_ap]
    refine ⟨⟨⟨⟨h1, h2⟩, ?_⟩, h4⟩, ?_⟩
    · rw [List.all_eq_true] at h3 ⊢
      intro d hdm
      have := h3 d hdm
      simp only [Bool.and_eq_true, Bool.not_eq_true', List.contains_eq_mem, decide_eq_false_iff_not] at this ⊢
      exact ⟨fun e => this.1 (dropA_rd e), this.2⟩
    · simp only [Bool.or_eq_true, List.all_eq_true, List.contains_eq_mem, decide_eq_true_eq] at h5 ⊢
      rcases h5 with h5 | h5
      · exact .inl h5
      · refine .inr fun t ht => List.mem_filter.2 ⟨h5 t ht, ?_⟩
        simp only [Bool.not_eq_true', decide_eq_false_iff_not]
        exact fun e => hd t e ht
  · exact .inr ⟨swA_drop h.1, h.2⟩

theorem dropA_rn {D : List Nat} {x : It} : (x.dropA D).i.rn = x.i.rn := by cases x with | g i => cases i <;> rfl | o j i => cases i <;> rfl | gd j s want d i => cases i <;> rfl
theorem norn_drop {D : List Nat} {X Y : List It} (h : norn X Y = true) : norn (X.map (·.dropA D)) Y = true := by
  simp only [norn, List.all_map, List.all_eq_true, Function.comp_apply, decide_eq_true_eq, dropA_rn] at h ⊢
  exact h

theorem bring {P : Program} {K : St → Prop} {X : List It} {c2 : List It} : ∀ {c1 : GL} {st : St}, (∀ y ∈ c1, norn y.2 X = true ∧ ∃ it, y.2 = [it] ∧ passes it X) →
    c1.Pairwise (fun y x => ∀ it ∈ y.2, ∀ x' ∈ x.2, ∀ d ∈ x'.dst.toList, d ∉ it.hops) → allres X st →
    vcIts P (flat c1 ++ (X ++ c2)) K st → vcIts P (X.map (·.dropA (dsts c1)) ++ (flat c1 ++ c2)) K st := by
  intro c1
  induction c1 with
  | nil =>
    intro st _ _ _ h
    have : ∀ {X : List It} {K : St → Prop} {st : St}, vcIts P X K st → vcIts P (X.map (·.dropA [])) K st := by
      intro X
      induction X with
      | nil => intro K st h; exact h
      | cons x X ih => intro K st h; rw [vcIts_cons] at h; rw [List.map_cons, vcIts_cons]; exact vcIt_drop (vcIt_mono h fun s hs => ih hs)
    simp only [flat, List.flatMap_nil, List.nil_append, dsts] at h ⊢
    rw [vcIts_append] at h ⊢
    exact this h
  | cons y c1 ih =>
    intro st hc hp hres h
    obtain ⟨hno, it, e, hi⟩ := hc y (by simp)
    rw [e] at hno
    have e1 : flat (y :: c1) = it :: flat c1 := by simp [flat, e]
    have e3 : dsts (y :: c1) = it.dst.toList ++ dsts c1 := by simp [dsts, e1]
    rw [List.pairwise_cons] at hp
    rw [e1, List.cons_append, vcIts_cons] at h
    have h2 : vcIt P it (vcIts P (X.map (·.dropA (dsts c1))) (vcIts P (flat c1 ++ c2) K)) st := vcIt_mono (keepX hno hres h) fun s hs => by
      have := ih (fun z hz => hc z (by simp [hz])) hp.2 hs.1 hs.2
      rw [vcIts_append] at this; exact this
    rw [e1, e3, vcIts_append, List.cons_append]
    have h3 : vcIts P (X.map (·.dropA (it.dst.toList ++ dsts c1))) (vcIt P it (vcIts P (flat c1 ++ c2) K)) st := by
      rcases hi with hi | ⟨x, rfl, hi⟩
      · have h3 := swapL (fun x hx => by
          obtain ⟨x0, hx0, rfl⟩ := List.mem_map.1 hx
          refine indep_drop (hi x0 hx0) fun d hd => ?_
          simp only [dsts, flat, List.mem_flatMap] at hd
          obtain ⟨z, ⟨g, hg, hz⟩, hd⟩ := hd
          exact hp.1 g hg it (by simp [e]) z hz d hd) h2
        rw [List.map_map] at h3
        have e4 : ((fun x : It => x.dropA it.dst.toList) ∘ fun x : It => x.dropA (dsts c1)) = fun x : It => x.dropA (it.dst.toList ++ dsts c1) := by
          funext x; exact It.dropA_dropA
        rw [e4] at h3
        exact h3
      · obtain ⟨_, g2⟩ := swC_dst hi
        simp only [List.map_cons, List.map_nil, g2] at h2 ⊢
        rw [vcIts_cons]
        exact swapC hi (fun r hr => hres x (by simp) r hr) (vcIt_mono h2 fun s hs => by rw [vcIts_cons] at hs; exact hs)
    refine vcIts_mono h3 fun s hs => ?_
    rw [vcIts_cons]; exact hs

theorem clr_drop {P : Program} {o : Oper} {D : List Nat} {i : I} {args : Array Operand} {ats : Array TypeId} (h : cmpClr P o args ats = some i) : i.dropA D = i := by
  unfold cmpClr at h
  simp only [Option.bind_eq_some_iff] at h
  obtain ⟨t, h0, x, ha0, h⟩ := h
  split at h
  · simp only [Option.bind_eq_some_iff] at h
    obtain ⟨inf, hi, z, hz, h⟩ := h
    split at h
    · cases h; rfl
    · cases h
  · cases h
theorem cpy_drop {P : Program} {o : Oper} {D : List Nat} {i : I} {args : Array Operand} {ats : Array TypeId} (h : cmpCpy P o args ats = some i) : i.dropA D = i := by
  unfold cmpCpy at h
  simp only [Option.bind_eq_some_iff] at h
  obtain ⟨t, h0, x, ha0, y, ha1, h⟩ := h
  split at h
  · simp only [Option.bind_eq_some_iff] at h
    obtain ⟨inf, hi, h⟩ := h
    split at h
    · cases h; rfl
    · cases h
  · cases h
theorem mks_drop {P : Program} {o : Oper} {r : Nat} {t : TypeId} {x y : Operand} {D : List Nat} {i : I} (h : cmpMks P o r t x y = some i) : i.dropA D = i := by
  unfold cmpMks at h
  split at h
  · simp only [Option.bind_eq_some_iff] at h
    obtain ⟨inf, hi, z, hz, h⟩ := h
    split at h
    · cases h; rfl
    · cases h
  · cases h

theorem cmpI_drop {P : Program} {o : Oper} {r : Nat} {ap D : List Nat} {i : I} (h : cmpI P o r ap = some i) : cmpI P o r (ap.filter fun t => !D.contains t) = some (i.dropA D) := by
  unfold cmpI at h ⊢
  split at h
  · next t x v ho =>
    simp only [Option.bind_eq_some_iff] at h ⊢
    obtain ⟨i0, h1, h2⟩ := h
    refine ⟨i0, h1, ?_⟩
    cases h2; rfl
  · next t ho =>
    simp only [Option.bind_eq_some_iff] at h ⊢
    obtain ⟨i0, h1, z, h2, h3⟩ := h
    refine ⟨i0, h1, z, h2, ?_⟩
    split at h3
    · next hc => rw [if_pos hc]; cases h3; rfl
    · cases h3
  · next t x ho =>
    simp only [Option.bind_eq_some_iff] at h ⊢
    obtain ⟨i0, h1, h2⟩ := h
    exact ⟨i0, h1, by cases h2; rfl⟩
  · next t len parts ho =>
    unfold cmpBsl at h ⊢
    split at h
    · simp only [Option.bind_eq_some_iff] at h ⊢
      obtain ⟨i0, h1, z, h2, h3⟩ := h
      refine ⟨i0, h1, z, h2, ?_⟩
      split at h3
      · next hc => rw [if_pos hc]; cases h3; rfl
      · cases h3
    · cases h
  · next c ho =>
    split at h
    · next f hf =>
      split at h
      · next hok => cases h; rw [if_pos hok]; rfl
      · cases h
    · next fv hf => cases h; rfl
    · next b hb =>
      split at h
      · next ha =>
        rw [if_pos ha]
        unfold cmpApp at h ⊢
        simp only [Option.bind_eq_some_iff] at h ⊢
        obtain ⟨t, h1, t2, h2, x, h3, y, h4, h5⟩ := h
        refine ⟨t, h1, t2, h2, x, h3, y, h4, ?_⟩
        split at h5
        · simp only [Option.bind_eq_some_iff] at h5 ⊢
          obtain ⟨i0, g1, z, g2, g3⟩ := h5
          refine ⟨i0, g1, z, g2, ?_⟩
          split at g3
          · next hc => rw [if_pos hc]; cases g3; rfl
          · cases g3
        · cases h5
      · next ha =>
        rw [if_neg ha]
        split at h
        · next hb => rw [if_pos hb, clr_drop h]; exact h
        · next hb =>
          rw [if_neg hb]
          split at h
          · next hc => rw [if_pos hc, cpy_drop h]; exact h
          · next hc =>
            rw [if_neg hc]
            simp only [Option.map_eq_some_iff] at h ⊢
            obtain ⟨l, h1, h2⟩ := h
            exact ⟨l, h1, by subst h2; rfl⟩
    · cases h
  · cases h; rfl
  · next t x y ho => rw [mks_drop h]; exact h
  · cases h; rfl
  · next t m k v ho =>
    unfold cmpMup at h ⊢
    split at h
    · split at h
      · split at h
        · next hdn => cases h; rw [if_pos hdn]; rfl
        · cases h
      · cases h
    · cases h
  · next t m k v ho =>
    unfold cmpMup at h ⊢
    split at h
    · split at h
      · split at h
        · next hdn => cases h; rw [if_pos hdn]; rfl
        · cases h
      · cases h
    · cases h
  · next t x ho =>
    unfold cmpRng at h ⊢
    split at h
    · cases h; rfl
    · cases h
  · next it str ho =>
    split at h
    · next hs => cases h; rw [if_pos hs]; rfl
    · cases h
  · simp only [Option.map_eq_some_iff] at h
    obtain ⟨l, g1, rfl⟩ := h
    rw [g1]; rfl

theorem cmp_drop {P : Program} {o : Oper} {r : Nat} {ap D : List Nat} {i : I} (h : cmpI P o r ap = some i ∨ ∃ b, cmpM P b o = some i) : cmpI P o r (ap.filter fun t => !D.contains t) = some (i.dropA D) ∨ ∃ b, cmpM P b o = some (i.dropA D) := by
  rcases h with h | h
  · exact .inl (cmpI_drop h)
  · right
    obtain ⟨b, h⟩ := h
    refine ⟨(b.1, b.2.filter fun t => !D.contains t), ?_⟩
    unfold cmpM at h ⊢
    split at h
    · unfold cmpBsv at h ⊢
      split at h
      · simp only [Option.bind_eq_some_iff] at h ⊢
        obtain ⟨inf, hi, z, hz, h⟩ := h
        refine ⟨inf, hi, z, hz, ?_⟩
        split at h
        · next hzz => rw [if_pos hzz]; injection h with h; subst h; rfl
        · cases h
      · cases h
    · split at h
      · obtain ⟨b, l⟩ := b
        rcases b with _ | _ | _ | b <;> (cases h; rfl)
      · cases h
    · cases h

theorem match_drop {P : Program} {N : Nat} {ops : Array Oper} {D : List Nat} : ∀ {l : List It} {js : List Nat}, MatchIts P N ops l js → MatchIts P N ops (l.map (·.dropA D)) js := by
  intro l
  induction l with
  | nil => intro js h; cases js <;> exact h
  | cons it l ih =>
    intro js h
    cases it with
    | g i =>
      obtain ⟨h1, h2⟩ := h
      have g1 : (i.dropA D).ghost = true := by cases i <;> first | exact h1 | cases h1
      cases js <;> exact ⟨g1, ih h2⟩
    | o j i =>
      cases js with
      | nil => exact h.elim
      | cons j' js =>
        obtain ⟨rfl, ⟨o, ap, ho, hgu, hc, hd⟩, hm⟩ := h
        exact ⟨rfl, ⟨o, _, ho, hgu, cmp_drop hc, hd⟩, ih hm⟩
    | gd j s want d i =>
      cases js with
      | nil => exact h.elim
      | cons j' js =>
        obtain ⟨rfl, ⟨o, ap, gj, ho, hgu, hs, hN, hdst, hc, hd⟩, hm⟩ := h
        exact ⟨rfl, ⟨o, _, gj, ho, hgu, hs, hN, hdst, cmp_drop hc, hd⟩, ih hm⟩

section
variable {P : Program} {N : Nat} {F : Nat → Prop}

theorem wpOp_then {ops : Array Oper} {Q : Exit → Act → World → Prop} {next : Act → World → Prop} {j : Nat} {a : Act} {w : World}
    (hs : wpOp P ops (Exit.then next (fun _ _ _ => False)) j (wpOps P ops (Exit.then next (fun _ _ _ => False)) []) a w) : wpOp P ops Q j next a w := by
  have hn : ∀ a w, wpOps P ops (Exit.then next (fun _ _ _ => False)) [] a w → next a w := fun a w h => h
  unfold wpOp at hs ⊢
  cases ho : ops[j]? with
  | none => rw [ho] at hs; exact hn _ _ hs
  | some o =>
    rw [ho] at hs
    by_cases hw : Region.wanted o (yielded ops a.tmps) = true
    · simp only [hw, if_true] at hs ⊢
      rcases hs with hs | ⟨_, a0, w0, hs⟩
      · refine .inl ?_
        unfold Oper.wp at hs ⊢
        generalize (execOp a.eval o).run P w = r at hs ⊢
        cases r with
        | ok n w' =>
          cases n <;> simp only [Oper.upon] at hs ⊢ <;> first
            | exact hn _ _ hs
            | exact hs.mono fun e w'' he => by cases e <;> first | exact hn _ _ he | exact he.elim | (obtain ⟨_, _, q⟩ := he; exact q.elim)
            | exact Rows.mono hs fun v w'' he => hn _ _ he
        | halt x w' => cases x <;> simp only [Oper.upon, Exit.then] at hs ⊢
      · exact hs.elim
    · simp only [hw, if_false, Bool.false_eq_true] at hs ⊢
      exact hn _ _ hs

/-- One operation, with what stands ahead of it. -/
theorem grp_sound {ops : Array Oper} {Q : Exit → Act → World → Prop} {next : Act → World → Prop} {j : Nat} : ∀ (l : List It), MatchIts P N ops l [j] → ∀ (w : World) (β : Nat → Hd) (st : St) (a : Act) (k : St → Prop), Rel w β F N st a →
    vcIts P l k st → (∀ a' w' β' st', Adv F w st.hp β w' st'.hp β' → Rel w' β' F N st' a' → st.hp.length ≤ st'.hp.length → k st' → next a' w') → wpOp P ops Q j next a w := by
  intro l
  induction l with
  | nil => intro hm; exact hm.elim
  | cons it l ih =>
    intro hm w β st a k hR h hQ
    cases it with
    | g i =>
      obtain ⟨hg, hm⟩ := hm
      obtain ⟨β', st', ⟨adv, hR', hl⟩, hk⟩ := sound_ghost hg hR (k := vcIts P l k) h
      exact ih hm w β' st' a k hR' hk fun a' w' β'' st'' adv' hR'' hl' hk' => hQ a' w' β'' st'' (adv.trans adv') hR'' (Nat.le_trans hl hl') hk'
    | o j' i =>
      have hs := its_sound (P := P) (Q := Exit.then next (fun _ _ _ => False)) (.o j' i :: l) [j] hm w β st a k hR h hQ
      rw [wpOps_cons] at hs
      exact wpOp_then hs
    | gd j' s want d i =>
      have hs := its_sound (P := P) (Q := Exit.then next (fun _ _ _ => False)) (.gd j' s want d i :: l) [j] hm w β st a k hR h hQ
      rw [wpOps_cons] at hs
      exact wpOp_then hs

def depOf (o : Oper) : List Nat := (o.after.toList.filter (Region.binds .any)).map (·.on)

def Closed (ops : Array Oper) (listed : Array Bool) : Prop :=
  ∀ (i : Nat) (o : Oper), listed.getD i false = true → ops[i]? = some o → ∀ d ∈ depOf o, listed.getD d false = true

/-- 'dep x y': operation x surely comes behind y. -/
def DepOk (ops : Array Oper) (dep : Nat → Nat → Bool) : Prop :=
  ∀ listed : Array Bool, Closed ops listed → ∀ x y, dep x y = true → (∀ o, ops[x]? = some o → ∀ d ∈ depOf o, listed.getD d false = true) → listed.getD y false = true

def maskOf (l : List Nat) (o : Oper) : Nat := (depOf o).foldl (fun s d => s ||| 2 ^ d ||| l.getD d 0) 0

/-- For each operation those that surely come ahead of it, as bits. -/
def maskUpTo (ops : Array Oper) : Nat → List Nat
  | 0 => []
  | k + 1 => let l := maskUpTo ops k; l ++ [match ops[k]? with | some o => maskOf l o | none => 0]

def depB (ops : Array Oper) (m : List Nat) (x y : Nat) : Bool := (m.getD x 0).testBit y

theorem mask_length {ops : Array Oper} : ∀ n, (maskUpTo ops n).length = n := by
  intro n; induction n with
  | zero => rfl
  | succ n ih => simp [maskUpTo, ih]

theorem mask_get {ops : Array Oper} : ∀ n x, x < n → (maskUpTo ops n).getD x 0 = (match ops[x]? with | some o => maskOf (maskUpTo ops x) o | none => 0) := by
  intro n
  induction n with
  | zero => intro x h; omega
  | succ n ih =>
    intro x h
    simp only [maskUpTo, List.getD, List.getElem?_append, mask_length]
    by_cases hx : x < n
    · rw [if_pos hx]; exact ih x hx
    · obtain rfl : x = n := by omega
      rw [if_neg hx, Nat.sub_self]; rfl

theorem maskOf_bit {l : List Nat} {y : Nat} : ∀ (ds : List Nat) (s : Nat), (ds.foldl (fun s d => s ||| 2 ^ d ||| l.getD d 0) s).testBit y = true → s.testBit y = true ∨ ∃ d ∈ ds, d = y ∨ (l.getD d 0).testBit y = true := by
  intro ds
  induction ds with
  | nil => intro s h; exact .inl h
  | cons d ds ih =>
    intro s h
    rcases ih _ h with h | ⟨d', h1, h2⟩
    · simp only [Nat.testBit_or, Bool.or_eq_true, Nat.testBit_two_pow, decide_eq_true_eq] at h
      rcases h with (h | h) | h
      · exact .inl h
      · exact .inr ⟨d, by simp, .inl h⟩
      · exact .inr ⟨d, by simp, .inr h⟩
    · exact .inr ⟨d', by simp [h1], h2⟩

theorem depB_ok {ops : Array Oper} (hdn : ∀ (i : Nat) (o : Oper), ops[i]? = some o → ∀ d ∈ depOf o, d < i) : DepOk ops (depB ops (maskUpTo ops ops.size)) := by
  intro listed hc x
  induction x using Nat.strongRecOn with
  | _ x ih =>
    intro y h hx
    unfold depB at h
    by_cases hlt : x < ops.size
    · rw [mask_get _ _ hlt] at h
      have ho := Array.getElem?_eq_getElem hlt
      rw [ho] at h
      rcases maskOf_bit _ _ h with h | ⟨d, hd, h⟩
      · simp at h
      · have hdl := hx _ ho d hd
        have hdx := hdn x _ ho d hd
        rcases h with rfl | h
        · exact hdl
        · refine ih d hdx y ?_ fun o' ho' d' hd' => hc d o' hdl ho' d' hd'
          unfold depB
          rw [mask_get _ _ (by omega)]
          rw [mask_get _ _ hdx] at h
          exact h
    · have : (maskUpTo ops ops.size).getD x 0 = 0 := by
        simp only [List.getD]
        rw [List.getElem?_eq_none (by rw [mask_length]; omega)]; rfl
      rw [this] at h; simp at h

theorem ready_iff {ops : Array Oper} {listed : Array Bool} {i : Nat} (hi : i ∈ Region.ready .any ops listed) : i < ops.size ∧ listed.getD i true = false ∧ ∀ o, ops[i]? = some o → ∀ d ∈ depOf o, listed.getD d false = true := by
  unfold Region.ready at hi
  simp only [List.mem_filter, List.mem_range, Bool.and_eq_true, Bool.not_eq_true'] at hi
  obtain ⟨h1, h2, h3⟩ := hi
  refine ⟨h1, h2, fun o ho d hd => ?_⟩
  rw [ho] at h3
  simp only [Option.map_some, Option.getD_some, Array.all_eq_true_iff_forall_mem] at h3
  simp only [depOf, List.mem_map, List.mem_filter, Array.mem_toList_iff] at hd
  obtain ⟨e, ⟨he, hb⟩, rfl⟩ := hd
  have := h3 e he
  simpa [hb] using this

theorem getD_set {listed : Array Bool} {i k : Nat} {b : Bool} (hi : i < listed.size) : (listed.setIfInBounds i true).getD k b = if i = k then true else listed.getD k b := by
  simp only [Array.getD_eq_getD_getElem?, Array.getElem?_setIfInBounds]
  split
  · next h => subst h; simp [hi]
  · rfl

theorem any_sound {ops : Array Oper} {Q : Exit → Act → World → Prop} {dep : Nat → Nat → Bool} (hdep : DepOk ops dep) (hdn : ∀ (i : Nat) (o : Oper), ops[i]? = some o → ∀ d ∈ depOf o, d < i) {tail : List It} (ht : MatchIts P N ops tail []) :
    ∀ (c : GL) (listed : Array Bool) (w : World) (β : Nat → Hd) (st : St) (a : Act) (k : St → Prop), listed.size = ops.size → (c.map (·.1)).Nodup → (∀ i, i < ops.size → (listed.getD i true = false ↔ i ∈ c.map (·.1))) →
      (∀ g ∈ c, g.1 < ops.size ∧ MatchIts P N ops g.2 [g.1]) → Closed ops listed → c.Pairwise (okPair ops dep) → (∀ g ∈ c, allres g.2 st) → Rel w β F N st a → vcIts P (flat c ++ tail) k st →
      (∀ a' w' β' st', Adv F w st.hp β w' st'.hp β' → Rel w' β' F N st' a' → st.hp.length ≤ st'.hp.length → k st' → Q .normal a' w') → wpAny P .any ops Q c.length listed a w := by
  intro c
  induction hlen : c.length using Nat.strongRecOn generalizing c with
  | _ m ih =>
  intro listed w β st a k hsz hnd hun hg hcl hpw hres hR h hQ
  have fin : c = [] → Q .normal a w := by
    rintro rfl
    have := its_sound (P := P) (ops := ops) (Q := Q) tail [] ht w β st a k hR h hQ
    exact this
  have noready : Region.ready .any ops listed = [] → c = [] := by
    intro hr
    refine Classical.byContradiction fun hne => ?_
    -- the least that isn't listed is ready
    have hex : ∃ i, i < ops.size ∧ listed.getD i true = false := by
      cases c with
      | nil => exact (hne rfl).elim
      | cons g c => exact ⟨g.1, (hg g (by simp)).1, (hun g.1 (hg g (by simp)).1).2 (by simp)⟩
    obtain ⟨i, hi, hil⟩ := hex
    have : ∀ m i, i ≤ m → i < ops.size → listed.getD i true = false → False := by
      intro m
      induction m with
      | zero =>
        intro i him hi hil
        obtain rfl : i = 0 := by omega
        have hmem : 0 ∈ Region.ready .any ops listed := by
          unfold Region.ready
          simp only [List.mem_filter, List.mem_range, Bool.and_eq_true, Bool.not_eq_true']
          refine ⟨hi, hil, ?_⟩
          have ho := Array.getElem?_eq_getElem hi
          rw [ho]
          simp only [Option.map_some, Option.getD_some, Array.all_eq_true_iff_forall_mem]
          intro e he
          cases hb : Region.binds .any e with
          | false => rfl
          | true =>
            have := hdn 0 _ ho e.on (by simp only [depOf, List.mem_map, List.mem_filter, Array.mem_toList_iff]; exact ⟨e, ⟨he, hb⟩, rfl⟩)
            omega
        rw [hr] at hmem; cases hmem
      | succ m ihm =>
        intro i him hi hil
        by_cases hall : ∀ k, k < i → listed.getD k true = true
        · have hmem : i ∈ Region.ready .any ops listed := by
            unfold Region.ready
            simp only [List.mem_filter, List.mem_range, Bool.and_eq_true, Bool.not_eq_true']
            refine ⟨hi, hil, ?_⟩
            have ho := Array.getElem?_eq_getElem hi
            rw [ho]
            simp only [Option.map_some, Option.getD_some, Array.all_eq_true_iff_forall_mem]
            intro e he
            cases hb : Region.binds .any e with
            | false => rfl
            | true =>
              have hlt := hdn i _ ho e.on (by simp only [depOf, List.mem_map, List.mem_filter, Array.mem_toList_iff]; exact ⟨e, ⟨he, hb⟩, rfl⟩)
              have h1 := hall e.on hlt
              have hlt2 : e.on < listed.size := by omega
              simp only [Array.getD, hlt2, dif_pos] at h1 ⊢
              simpa using h1
          rw [hr] at hmem; cases hmem
        · have : ∃ k, k < i ∧ listed.getD k true = false := Classical.byContradiction fun hn => hall fun k hk => by
            cases hv : listed.getD k true with
            | true => rfl
            | false => exact (hn ⟨k, hk, hv⟩).elim
          obtain ⟨k', hk', hv⟩ := this
          exact ihm k' (by omega) (by omega) hv
    exact this i i (Nat.le_refl _) hi hil
  cases m with
  | zero =>
    have hc0 : c = [] := List.length_eq_zero_iff.1 hlen
    refine ⟨?_, fin hc0⟩
    refine List.eq_nil_iff_forall_not_mem.2 fun i hi => ?_
    obtain ⟨h1, h2, _⟩ := ready_iff hi
    have := (hun i h1).1 h2
    rw [hc0] at this
    cases this
  | succ m =>
    refine ⟨fun hr => fin (noready hr), fun i hi => ?_⟩
    obtain ⟨h1, h2, h3⟩ := ready_iff hi
    have hmem := (hun i h1).1 h2
    obtain ⟨g, hgm, rfl⟩ := List.mem_map.1 hmem
    obtain ⟨c1, c2, rfl⟩ := List.append_of_mem hgm
    obtain ⟨i, X⟩ := g
    have hpre : ∀ y ∈ c1, norn y.2 X = true ∧ ∃ it, y.2 = [it] ∧ passes it X := by
      intro y hy
      refine ⟨((List.pairwise_append.1 hpw).2.2 y hy (i, X) (by simp)).2.1.1, ?_⟩
      have hp := ((List.pairwise_append.1 hpw).2.2 y hy (i, X) (by simp)).1
      rcases hp with hp | hp
      · have hl := hdep listed hcl i y.1 hp h3
        have hy2 := hg y (by simp [hy])
        have := (hun y.1 hy2.1).2 (by simp only [List.map_append, List.mem_append, List.mem_map]; exact .inl ⟨y, hy, rfl⟩)
        have hlt : y.1 < listed.size := by omega
        simp only [Array.getD, hlt, dif_pos] at hl this
        rw [hl] at this; cases this
      · exact hp
    have hflat : flat (c1 ++ (i, X) :: c2) ++ tail = flat c1 ++ (X ++ (flat c2 ++ tail)) := by simp [flat]
    rw [hflat] at h
    have h' := bring hpre ((List.pairwise_append.1 hpw).1.imp fun hp => hp.2.2) (hres (i, X) (by simp)) h
    rw [vcIts_append] at h'
    have hrest : allres (flat (c1 ++ c2)) st := fun y hy r hr => by
      obtain ⟨g, hg1, hg2⟩ := List.mem_flatMap.1 hy
      exact hres g (by rcases List.mem_append.1 hg1 with e | e <;> simp [e]) y hg2 r hr
    have hnorn : norn X (flat (c1 ++ c2)) = true := by
      simp only [norn, List.all_eq_true, decide_eq_true_eq]
      intro x hx y hy r hr
      obtain ⟨g, hg1, hg2⟩ := List.mem_flatMap.1 hy
      have : norn X g.2 = true := by
        rcases List.mem_append.1 hg1 with e | e
        · exact ((List.pairwise_append.1 hpw).2.2 g e (i, X) (by simp)).2.1.2
        · exact ((List.pairwise_cons.1 (List.pairwise_append.1 hpw).2.1).1 g e).2.1.1
      simp only [norn, List.all_eq_true, decide_eq_true_eq] at this
      exact this x hx y hg2 r hr
    have h' := keepXs (norn_drop hnorn) hrest h'
    refine grp_sound (X.map (·.dropA (dsts c1))) (match_drop (hg (i, X) (by simp)).2) w β st a _ hR h' fun a' w' β' st' adv hR' hl' hk' => ?_
    have hlen' : (c1 ++ c2).length = m := by simp at hlen ⊢; omega
    have hsub : (c1 ++ c2).Sublist (c1 ++ (i, X) :: c2) := List.Sublist.append_left (List.sublist_cons_self _ _) _
    have hnd' : ((c1 ++ c2).map (·.1)).Nodup := hnd.sublist (hsub.map _)
    have hil : i < listed.size := by omega
    have hnoti : i ∉ (c1 ++ c2).map (·.1) := by
      simp only [List.map_append, List.map_cons, List.mem_append] at hnd ⊢
      have := List.nodup_append.1 hnd
      rintro (e | e)
      · exact this.2.2 i e i (by simp) rfl
      · exact (List.nodup_cons.1 this.2.1).1 e
    have hih := ih m (by omega) (c1 ++ c2) hlen' (listed.setIfInBounds i true) w' β' st' a' k (by simp; exact hsz) hnd' (fun q hq => ?_) (fun g hg' => hg g (hsub.subset hg')) (fun q o hql ho d hd => ?_) (hpw.sublist hsub) (fun g hg' y hy r hr => hk'.1 y (List.mem_flatMap.2 ⟨g, hg', hy⟩) r hr) hR'
      (by simpa [flat] using hk'.2) (fun a2 w2 β2 st2 adv2 hR2 hl2 hk2 => hQ a2 w2 β2 st2 (adv.trans adv2) hR2 (Nat.le_trans hl' hl2) hk2)
    · exact hih
    · rw [getD_set hil]
      split
      · next e => subst e; exact ⟨(fun e => by cases e), fun e => (hnoti e).elim⟩
      · next e =>
        rw [hun q hq]
        simp only [List.map_append, List.map_cons, List.mem_append, List.mem_cons]
        constructor
        · rintro (e1 | e1 | e1)
          · exact .inl e1
          · exact (e e1.symm).elim
          · exact .inr e1
        · rintro (e1 | e1)
          · exact .inl e1
          · exact .inr (.inr e1)
    · rw [getD_set hil]
      split
      · rfl
      · rw [getD_set hil] at hql
        split at hql
        · next e => subst e; exact h3 o ho d hd
        · exact hcl q o hql ho d hd

end
end Go.Abs

/- Code. -/
namespace Go.Abs
set_option linter.unusedVariables false

inductive C where
  | skip
  | reg (n : Nat) (its : List It)
  | seq (a b : C)
  | cond (x : Operand) (a b : C)
  | block (id : Nat) (c : C)
  | loop (c : C)
  | exit (id : Nat)
  | ret
  deriving Inhabited

inductive Ex where
  | norm
  | exit (id : Nat)
  | ret

def Ex.to : Ex → Exit
  | .norm => .normal
  | .exit id => .exit id
  | .ret => .ret

/-- What is said of a region beside its operations: which of ours stand ahead of operation j; which slots are kept behind. -/
structure RA where
  gs : List (Nat × List I) := []
  aps : List (Nat × List Nat) := []
  keep : Option (List Nat) := none
  ord : List Nat := []

def gsOf : List (Nat × List I) → Nat → List I
  | [], _ => []
  | (k, l) :: r, j => if k = j then l else gsOf r j

def apOf : List (Nat × List Nat) → Nat → List Nat
  | [], _ => []
  | (k, l) :: r, j => if k = j then l else apOf r j

/-- A mark that a call changes what it is handed. -/
def isM (ap : List Nat) : Option (Nat × List Nat) := match ap with | [1000000] => some (0, []) | [1000001] => some (1, []) | [1000002] => some (2, []) | 1000003 :: ap => some (3, ap) | [1000004] => some (4, []) | _ => none

def cmpA (P : Program) (o : Oper) (r : Nat) (ap : List Nat) : Option I := match isM ap with | some b => cmpM P b o | none => cmpI P o r ap

def cmpIts (P : Program) (N : Nat) (ops : Array Oper) (gs : List (Nat × List I)) (aps : List (Nat × List Nat)) (tail : List It) : List Nat → Option (List It)
  | [] => some tail
  | j :: js => (ops[j]?).bind fun o => (cmpA P o (resOf ops j) (apOf aps j)).bind fun i => (cmpIts P N ops gs aps tail js).bind fun l =>
    if dstOk N o && (gsOf gs j).all (·.ghost) then
      match o.guard with
      | none => some ((gsOf gs j).map .g ++ .o j i :: l)
      | some (gj, want) => match (ops[gj]?).bind (·.dst) with
        | some s => if s < N then some ((gsOf gs j).map .g ++ .gd j s want o.dst i :: l) else none
        | none => none
    else none

def keepIts (ra : RA) : List It := match ra.keep with | some ts => [.g (.keep ts)] | none => []

def cmpReg (P : Program) (N : Nat) (ra : RA) (ops : Array Oper) : Option C :=
  (cmpIts P N ops ra.gs ra.aps (keepIts ra) (List.range ops.size)).map (.reg (resOf ops ops.size))

def okPairB (dep : Nat → Nat → Bool) (y x : Nat × List It) : Bool :=
  (dep x.1 y.1 || (match y.2 with | [it] => passesB it x.2 | _ => false)) && (norn y.2 x.2 && norn x.2 y.2) && y.2.all fun it => x.2.all fun x' => x'.dst.toList.all fun d => !it.hops.contains d

def pairwiseB {α : Type} (r : α → α → Bool) : List α → Bool
  | [] => true
  | x :: l => l.all (r x) && pairwiseB r l

/-- A region whose order is open, its operations in an order of ours. -/
def cmpDraw (P : Program) (N : Nat) (ra : RA) (ops : Array Oper) : Option C :=
  (ra.ord.mapM fun j => (cmpIts P N ops ra.gs ra.aps [] [j]).map fun X => (j, X)).bind fun c =>
    if P.follows .mixedOrders && ra.ord.length == ops.size && ra.ord.all (decide <| · < ops.size) && pairwiseB (fun a b => a != b) ra.ord &&
        ops.toList.zipIdx.all (fun p => (depOf p.1).all (decide <| · < p.2)) && pairwiseB (okPairB (depB ops (maskUpTo ops ops.size))) c && (flat c).all (fun x => x.resn.all fun r => decide (r < resOf ops ops.size)) then
      some (.reg (resOf ops ops.size) (flat c ++ keepIts ra))
    else none

def raOf : List (Nat × RA) → Nat → RA
  | [], _ => {}
  | (k, ra) :: r, j => if k = j then ra else raOf r j

def cmpC (P : Program) (N : Nat) (ann : List (Nat × RA)) : Code → Option C
  | .skip => some .skip
  | .region id ops draw => if draw then cmpDraw P N (raOf ann id) ops else cmpReg P N (raOf ann id) ops
  | .seq a b => (cmpC P N ann a).bind fun x => (cmpC P N ann b).map (.seq x)
  | .cond x a b => (cmpC P N ann a).bind fun y => (cmpC P N ann b).map (.cond x y)
  | .block id c => (cmpC P N ann c).map (.block id)
  | .loop c => (cmpC P N ann c).map .loop
  | .exit id => some (.exit id)
  | .ret => some .ret
  | _ => none

structure Lev (n0 : Nat) (F : Nat → Prop) (w : World) (H : Heap) (β : Nat → Hd) (w' : World) (H' : Heap) (β' : Nat → Hd) : Prop where
  size : w.heap.size ≤ w'.heap.size
  same : ∀ b, b < w.heap.size → ¬ (owned H β b ∨ F b) → w'.heap[b]? = w.heap[b]? ∧ ¬ (owned H' β' b ∨ F b)
  live : ∀ id, id < n0 → liveIn H id → liveIn H' id
  hd : ∀ id h', id < n0 → liveIn H id → hdOf H' β' id = some h' → hdOf H β id = some h' ∨ ∃ h, hdOf H β id = some h ∧ h.tot < h'.tot
  ext : WExt (owned H β) w w'
  own : ∀ b, owned H' β' b → owned H β b ∨ w.heap.size ≤ b

theorem Adv.lev {n0 : Nat} {F : Nat → Prop} {w w' : World} {H H' : Heap} {β β' : Nat → Hd} (h : Adv F w H β w' H' β') : Lev n0 F w H β w' H' β' :=
  ⟨h.le.size, h.le.same, fun id _ hl => h.le.live id hl, fun id h' _ hl => h.le.hd id h' hl, h.ext, h.own⟩

theorem Lev.trans {n0 : Nat} {F : Nat → Prop} {w w' w'' : World} {H H' H'' : Heap} {β β' β'' : Nat → Hd} (h : Lev n0 F w H β w' H' β') (k : Lev n0 F w' H' β' w'' H'' β'') : Lev n0 F w H β w'' H'' β'' := by
  refine ⟨Nat.le_trans h.size k.size, fun b hb hn => ?_, fun id hi hl => k.live id hi (h.live id hi hl), fun id h'' hi hl e => ?_, h.ext.trans k.ext h.own, fun b hb => ?_⟩
  · obtain ⟨h1, h2⟩ := h.same b hb hn
    obtain ⟨k1, k2⟩ := k.same b (Nat.lt_of_lt_of_le hb h.size) h2
    exact ⟨k1.trans h1, k2⟩
  · rcases k.hd id h'' hi (h.live id hi hl) e with e1 | ⟨g, e1, hlt⟩
    · exact h.hd id h'' hi hl e1
    · rcases h.hd id g hi hl e1 with e2 | ⟨g2, e2, hlt2⟩
      · exact .inr ⟨g, e2, hlt⟩
      · exact .inr ⟨g2, e2, by omega⟩
  · rcases k.own b hb with e | e
    · exact h.own b e
    · exact .inr (Nat.le_trans h.size e)

def Lift (N n0 : Nat) (F : Nat → Prop) (w : World) (st : St) (β : Nat → Hd) (Q : Ex → St → Prop) : Exit → Act → World → Prop :=
  fun e a' w' => ∃ x β' st', x.to = e ∧ Lev n0 F w st.hp β w' st'.hp β' ∧ Rel w' β' F N st' a' ∧ n0 ≤ st'.hp.length ∧ Q x st'

def W (P : Program) (N n0 : Nat) (code : Code) (Q : Ex → St → Prop) (st : St) : Prop :=
  ∀ (w : World) (β : Nat → Hd) (F : Nat → Prop) (a : Act), Rel w β F N st a → code.wp P (Lift N n0 F w st β Q) a w

/-- A piece of code, by its IR alone. -/
def WI (P : Program) (ir : C) (Q : Ex → St → Prop) (st : St) : Prop :=
  ∀ (N : Nat) (ann : List (Nat × RA)) (code : Code) (n0 : Nat), cmpC P N ann code = some ir → n0 ≤ st.hp.length → W P N n0 code Q st

def St.res (st : St) : Nat → St
  | 0 => st
  | n + 1 => { st with hp := st.hp ++ List.replicate (n + 1) .res, bs := st.hp.length }

/-- The slots, but for what names objects from n on. -/
def lim (n : Nat) (x : V) : V := if x.ids.all (· < n) then x else .any
def limO (n : Nat) (o : O) : O := if o.refs.all (· < n) then o else .dead
def trimS (n : Nat) (l : Sl) : Sl := fun t => lim n (gt l t)
def St.trim (n : Nat) (st : St) : St := { st with sl := trimS n st.sl, hp := (st.hp.take n).map (limO n) }

theorem trimS_up (n : Nat) (l : Sl) (d : Nat) (v : V) : trimS n (up l d v) = up (trimS n l) d (lim n v) := by
  funext t; simp only [trimS, up, gt]; split <;> rfl
theorem trimS_e0 (n : Nat) : trimS n e0 = e0 := by funext t; simp [trimS, gt, e0, lim, V.ids]

def vc (P : Program) : C → (Ex → St → Prop) → St → Prop
  | .skip, Q, st => Q .norm st
  | .reg n its, Q, st => vcIts P its (Q .norm) (st.res n)
  | .seq a b, Q, st => vc P a (fun e s => match e with | .norm => vc P b Q s | .exit i => Q (.exit i) s | .ret => Q .ret s) st
  | .cond x a b, Q, st => match st.ev x with
    | .a (.bool t) => (t = true → vc P a Q st) ∧ (t = false → vc P b Q st)
    | _ => False
  | .block id c, Q, st => vc P c (fun e s => match e with | .norm => Q .norm s | .exit i => if i = id then Q .norm s else Q (.exit i) s | .ret => Q .ret s) st
  | .loop c, Q, st => WI P (.loop c) Q st
  | .exit id, Q, st => Q (.exit id) st
  | .ret, Q, st => Q .ret st

section
variable {P : Program} {N n0 : Nat} {F : Nat → Prop}

theorem res_length (st : St) (n : Nat) : st.hp.length ≤ (st.res n).hp.length := by cases n <;> simp [St.res]

theorem resd_res (st : St) {n r : Nat} (h : r < n) : resd r (st.res n) := by
  cases n with
  | zero => omega
  | succ n =>
    show (st.hp ++ List.replicate (n + 1) O.res)[st.hp.length + r]? = _
    rw [List.getElem?_append_right (by omega), List.getElem?_replicate, if_pos (by omega)]

theorem res_get {H : Heap} {n id : Nat} {o : O} (h : (H ++ List.replicate n .res)[id]? = some o) (ho : o ≠ .res) : H[id]? = some o := by
  rw [List.getElem?_append] at h
  split at h
  · exact h
  · rw [List.getElem?_replicate] at h
    split at h
    · injection h with h; exact (ho h.symm).elim
    · cases h

theorem get_res {H : Heap} {n id : Nat} {o : O} (h : H[id]? = some o) : (H ++ List.replicate n .res)[id]? = some o := by
  rw [List.getElem?_append, if_pos (lt_of_get h)]; exact h

theorem ownsB_res {H : Heap} {β : Nat → Hd} {n id b : Nat} : ownsB (H ++ List.replicate n .res) β id b ↔ ownsB H β id b := by
  unfold ownsB
  cases h : H[id]? with
  | some o => rw [get_res h]
  | none =>
    cases h2 : (H ++ List.replicate n .res)[id]? with
    | none => rfl
    | some o =>
      have : o = .res := Classical.byContradiction fun hn => by rw [res_get h2 hn] at h; cases h
      subst this; rfl

theorem hdOf_res {H : Heap} {β : Nat → Hd} {n id : Nat} : hdOf (H ++ List.replicate n .res) β id = hdOf H β id := by
  unfold hdOf
  cases h : H[id]? with
  | some o => rw [get_res h]
  | none =>
    cases h2 : (H ++ List.replicate n .res)[id]? with
    | none => rfl
    | some o =>
      have : o = .res := Classical.byContradiction fun hn => by rw [res_get h2 hn] at h; cases h
      subst this; rfl

theorem cx_res {hp : Array Obj} {H : Heap} {β : Nat → Hd} {n : Nat} : cx hp (H ++ List.replicate n .res) β F = cx hp H β F := by
  unfold cx
  congr 1
  · funext b
    simp only [owned, ownsB_res]
  · funext id
    simp only [liveIn, eq_iff_iff]
    exact ⟨fun ⟨o, h1, h2⟩ => ⟨o, res_get h1 h2, h2⟩, fun ⟨o, h1, h2⟩ => ⟨o, get_res h1, h2⟩⟩
  · funext id; exact hdOf_res

theorem adv_res {w : World} {H : Heap} {β : Nat → Hd} (hk : HOK w.heap H β F) (n : Nat) : Adv F w H β w (H ++ List.replicate n .res) β := by
  refine ⟨⟨fun id o h => ?_, fun id id' b h1 h2 => hk.one id id' b (ownsB_res.1 h1) (ownsB_res.1 h2), fun b hb => ⟨(hk.far b hb).1, fun ⟨id, e⟩ => (hk.far b hb).2 ⟨id, ownsB_res.1 e⟩⟩⟩, by rw [cx_res]; exact .refl _, .refl _ _⟩
  rw [cx_res]
  by_cases ho : o = .res
  · subst ho; trivial
  · exact hk.ro id o (res_get h ho)

theorem rel_res {w : World} {β : Nat → Hd} {st : St} {a : Act} (hR : Rel w β F N st a) (n : Nat) : Adv F w st.hp β w (st.res n).hp β ∧ Rel w β F N (st.res n) a := by
  cases n with
  | zero => exact ⟨⟨hR.hok, .refl _, .refl _ _⟩, hR⟩
  | succ n =>
    have adv := adv_res (n := n + 1) hR.hok
    exact ⟨adv, ⟨adv.hok, fun t => (hR.sl t).mono adv.le, hR.df, hR.sz⟩⟩

theorem Lift.of {w w1 : World} {β β1 : Nat → Hd} {st st1 : St} {Q : Ex → St → Prop} (h : Lev n0 F w st.hp β w1 st1.hp β1) {e : Exit} {a : Act} {w2 : World} (k : Lift N n0 F w1 st1 β1 Q e a w2) : Lift N n0 F w st β Q e a w2 := by
  obtain ⟨x, β', st', h1, h2, h3, h4, h5⟩ := k
  exact ⟨x, β', st', h1, h.trans h2, h3, h4, h5⟩

theorem cmpIts_match {ops : Array Oper} {gs : List (Nat × List I)} {aps : List (Nat × List Nat)} {tail : List It} (ht : MatchIts P N ops tail []) : ∀ (js : List Nat) (l : List It), cmpIts P N ops gs aps tail js = some l → MatchIts P N ops l js := by
  intro js
  induction js with
  | nil => intro l h; simp only [cmpIts, Option.some.injEq] at h; subst h; exact ht
  | cons j js ih =>
    intro l h
    simp only [cmpIts, Option.bind_eq_some_iff] at h
    obtain ⟨o, ho, i, hi, l', hl', h⟩ := h
    have hm := ih l' hl'
    have hi : cmpI P o (resOf ops j) (apOf aps j) = some i ∨ ∃ b, cmpM P b o = some i := by
      unfold cmpA at hi
      split at hi
      · exact .inr ⟨_, hi⟩
      · exact .inl hi
    have ghosts : ∀ (g : List I) (it : List It), g.all (·.ghost) = true → MatchIts P N ops it (j :: js) → MatchIts P N ops (g.map .g ++ it) (j :: js) := by
      intro g
      induction g with
      | nil => intro it _ h; exact h
      | cons x g ihg =>
        intro it hg h
        simp only [List.all_cons, Bool.and_eq_true] at hg
        exact ⟨hg.1, ihg it hg.2 h⟩
    split at h
    · next hc =>
      simp only [Bool.and_eq_true] at hc
      split at h
      · next hgu =>
        injection h with h; subst h
        exact ghosts _ _ hc.2 ⟨rfl, ⟨o, apOf aps j, ho, hgu, hi, hc.1⟩, hm⟩
      · next gj want hgu =>
        split at h
        · next s hs =>
          split at h
          · next hsN =>
            injection h with h; subst h
            exact ghosts _ _ hc.2 ⟨rfl, ⟨o, apOf aps j, gj, ho, hgu, hs, hsN, rfl, hi, hc.1⟩, hm⟩
          · cases h
        · cases h
    · cases h

theorem keepIts_match {ops : Array Oper} (ra : RA) : MatchIts P N ops (keepIts ra) [] := by
  unfold keepIts; split
  · exact ⟨rfl, trivial⟩
  · trivial

theorem pairwiseB_iff {α : Type} {r : α → α → Bool} : ∀ {l : List α}, pairwiseB r l = true → l.Pairwise fun a b => r a b = true := by
  intro l
  induction l with
  | nil => intro _; exact .nil
  | cons x l ih =>
    intro h
    simp only [pairwiseB, Bool.and_eq_true, List.all_eq_true] at h
    exact List.pairwise_cons.2 ⟨h.1, ih h.2⟩

theorem draw_sound {ra : RA} {ops : Array Oper} {ir : C} {id : Nat} (hc : cmpDraw P N ra ops = some ir) : ∃ n its, ir = .reg n its ∧ ∀ (w : World) (β : Nat → Hd) (st : St) (a : Act) (k : St → Prop) (Q : Exit → Act → World → Prop), (∀ r, r < n → resd r st) → Rel w β F N st a → vcIts P its k st →
    (∀ a' w' β' st', Adv F w st.hp β w' st'.hp β' → Rel w' β' F N st' a' → st.hp.length ≤ st'.hp.length → k st' → Q .normal a' w') → (Code.region id ops true).wp P Q a w := by
  simp only [cmpDraw, Option.bind_eq_some_iff] at hc
  obtain ⟨c, hcm, hc⟩ := hc
  split at hc
  · next hcond =>
    simp only [Bool.and_eq_true, beq_iff_eq, List.all_eq_true, decide_eq_true_eq] at hcond
    obtain ⟨⟨⟨⟨⟨⟨hmix, hlen⟩, hlt⟩, hnd⟩, hdn⟩, hpw⟩, hrs⟩ := hcond
    injection hc with hc
    subst hc
    refine ⟨_, _, rfl, fun w β st a k Q hres hR h hQ => ?_⟩
    obtain ⟨m1, m2⟩ := mapM_some hcm
    have hfst : c.map (·.1) = ra.ord := by
      apply List.ext_getElem?
      intro i
      rw [List.getElem?_map]
      cases ho : ra.ord[i]? with
      | none =>
        have : c[i]? = none := by rw [List.getElem?_eq_none_iff] at ho ⊢; omega
        rw [this]; rfl
      | some j =>
        obtain ⟨y, hy, hf⟩ := m2 i j ho
        simp only [Option.map_eq_some_iff] at hf
        obtain ⟨X, _, rfl⟩ := hf
        rw [hy]; rfl
    have hdn' : ∀ (i : Nat) (o : Oper), ops[i]? = some o → ∀ d ∈ depOf o, d < i := by
      intro i o ho d hd
      have := hdn (o, i) (by
        rw [List.mem_zipIdx_iff_getElem?]; simpa using ho) 
      exact this d hd
    refine wp_region_any hmix ?_
    have hR' : Rel { w with drawn := w.drawn + 1 } β F N st a := ⟨hR.hok, hR.sl, hR.df, hR.sz⟩
    have hndup : (c.map (·.1)).Nodup := by
      rw [hfst]
      exact (pairwiseB_iff hnd).imp fun h => by simpa using h
    have key := any_sound (P := P) (F := F) (Q := Q) (depB_ok hdn') hdn' (keepIts_match ra) c (Array.replicate ops.size false) { w with drawn := w.drawn + 1 } β st a k (by simp) hndup (fun i hi => ?_) (fun g hg => ?_) (fun i o hl => by
        simp only [Array.getD_eq_getD_getElem?, Array.getElem?_replicate] at hl
        split at hl <;> cases hl) ((pairwiseB_iff hpw).imp fun {y x} hyx => ?_) (fun g hg y hy r hr => hres r (hrs y (List.mem_flatMap.2 ⟨g, hg, hy⟩) r hr)) hR' h fun a' w' β' st' adv hR2 hl hk => hQ a' w' β' st' ⟨adv.hok, adv.le, ⟨adv.ext.os, adv.ext.tape, adv.ext.output, adv.ext.size, adv.ext.block⟩⟩ hR2 hl hk
    · rw [show c.length = ops.size from by rw [m1, hlen]] at key
      exact key
    · rw [hfst]
      constructor
      · intro _
        -- all numbers below the size stand in a list without repeats of that length
        refine Classical.byContradiction fun hno => ?_
        have hsub : ∀ x ∈ i :: ra.ord, x ∈ List.range ops.size := by
          intro x hx
          rcases List.mem_cons.1 hx with rfl | hx
          · exact List.mem_range.2 hi
          · exact List.mem_range.2 (hlt x hx)
        have hnd2 : (i :: ra.ord).Nodup := List.nodup_cons.2 ⟨hno, by rw [← hfst]; exact hndup⟩
        have := List.Nodup.length_le_of_subset hnd2 hsub
        simp at this; omega
      · intro _
        simp [Array.getD, hi]
    · obtain ⟨i, hi⟩ := List.getElem?_of_mem hg
      have hio : i < ra.ord.length := by rw [← m1]; exact lt_of_get hi
      have ho := List.getElem?_eq_getElem hio
      obtain ⟨y, hy, hf⟩ := m2 i _ ho
      rw [hi] at hy; injection hy with hy; subst hy
      simp only [Option.map_eq_some_iff] at hf
      obtain ⟨X, hX, rfl⟩ := hf
      exact ⟨hlt _ (List.getElem_mem hio), cmpIts_match (by trivial) _ _ hX⟩
    · unfold okPairB at hyx
      simp only [Bool.and_eq_true, Bool.or_eq_true] at hyx
      obtain ⟨⟨hyx, hno⟩, hsep⟩ := hyx
      refine ⟨?_, hno, fun it hit x' hx' d hd => ?_⟩
      · rcases hyx with hyx | hyx
        · exact .inl hyx
        · refine .inr ?_
          split at hyx
          · next it e => exact ⟨it, e, passes_of hyx⟩
          · cases hyx
      · have := List.all_eq_true.1 (List.all_eq_true.1 (List.all_eq_true.1 hsep it hit) x' hx') d hd
        simpa using this
  · cases hc

theorem W.mono {code : Code} {Q Q' : Ex → St → Prop} {st : St} (h : W P N n0 code Q st) (hq : ∀ e s, Q e s → Q' e s) : W P N n0 code Q' st :=
  fun w β F a hR => wp_mono (h w β F a hR) fun e a' w' ⟨x, β', st', h1, h2, h3, h4, h5⟩ => ⟨x, β', st', h1, h2, h3, h4, hq _ _ h5⟩

/-- What is computed of the IR holds of the code. -/
theorem vc_sound {ann : List (Nat × RA)} : ∀ (code : Code) (ir : C) (Q : Ex → St → Prop) (st : St), cmpC P N ann code = some ir → n0 ≤ st.hp.length → vc P ir Q st → W P N n0 code Q st := by
  intro code
  induction code with
  | skip =>
    intro ir Q st hc hn h w β F a hR
    simp only [cmpC, Option.some.injEq] at hc; subst hc
    exact wp_skip ⟨.norm, β, st, rfl, (Adv.lev ⟨hR.hok, .refl _, .refl _ _⟩), hR, hn, h⟩
  | region id ops draw =>
    intro ir Q st hc hn h w β F a hR
    simp only [cmpC] at hc
    split at hc
    · next hd =>
      subst hd
      obtain ⟨n, its, rfl, hs⟩ := draw_sound (F := F) (id := id) hc
      obtain ⟨adv, hR2⟩ := rel_res hR n
      refine hs w β (st.res n) a (Q .norm) _ (fun r hr => resd_res st hr) hR2 h fun a' w' β' st' adv' hR' hl hk => ?_
      exact ⟨.norm, β', st', rfl, (adv.trans adv').lev, hR', Nat.le_trans hn (Nat.le_trans (res_length st _) hl), hk⟩
    · next hd =>
      simp only [cmpReg, Option.map_eq_some_iff] at hc
      obtain ⟨its, hits, rfl⟩ := hc
      have hm := cmpIts_match (P := P) (N := N) (keepIts_match (raOf ann id)) _ _ hits
      obtain ⟨adv, hR2⟩ := rel_res hR (resOf ops ops.size)
      have : draw = false := by simpa using hd
      subst this
      refine wp_region (its_sound its _ hm w β _ a (Q .norm) hR2 h fun a' w' β' st' adv' hR' hl hk => ?_)
      exact ⟨.norm, β', st', rfl, (adv.trans adv').lev, hR', Nat.le_trans hn (Nat.le_trans (res_length st _) hl), hk⟩
  | seq x y ihx ihy =>
    intro ir Q st hc hn h w β F a hR
    simp only [cmpC, Option.bind_eq_some_iff, Option.map_eq_some_iff] at hc
    obtain ⟨irx, hx, iry, hy, rfl⟩ := hc
    refine wp_seq (wp_mono (ihx irx _ st hx hn h w β F a hR) fun e a' w' hL => ?_)
    obtain ⟨x', β', st', rfl, h2, h3, h4, h5⟩ := hL
    cases x' with
    | norm => exact wp_mono (ihy iry Q st' hy h4 h5 w' β' F a' h3) fun e a2 w2 k => k.of h2
    | exit i => exact ⟨.exit i, β', st', rfl, h2, h3, h4, h5⟩
    | ret => exact ⟨.ret, β', st', rfl, h2, h3, h4, h5⟩
  | cond x c d ihc ihd =>
    intro ir Q st hc hn h w β F a hR
    simp only [cmpC, Option.bind_eq_some_iff, Option.map_eq_some_iff] at hc
    obtain ⟨irx, hx, iry, hy, rfl⟩ := hc
    simp only [vc] at h
    split at h
    · next t e =>
      have hv := hR.ev x
      rw [e] at hv
      exact wp_cond_split hv.of_a (fun ht => ihc irx Q st hx hn (h.1 ht) w β F a hR) fun ht => ihd iry Q st hy hn (h.2 ht) w β F a hR
    · exact h.elim
  | block id c ih =>
    intro ir Q st hc hn h w β F a hR
    simp only [cmpC, Option.map_eq_some_iff] at hc
    obtain ⟨irx, hx, rfl⟩ := hc
    refine wp_block (wp_mono (ih irx _ st hx hn h w β F a hR) fun e a' w' hL => ?_)
    obtain ⟨x', β', st', rfl, h2, h3, h4, h5⟩ := hL
    cases x' with
    | norm => exact ⟨.norm, β', st', rfl, h2, h3, h4, h5⟩
    | exit i =>
      simp only at h5
      show (if i = id then _ else _)
      split
      · next e => rw [if_pos e] at h5; exact ⟨.norm, β', st', rfl, h2, h3, h4, h5⟩
      · next e => rw [if_neg e] at h5; exact ⟨.exit i, β', st', rfl, h2, h3, h4, h5⟩
    | ret => exact ⟨.ret, β', st', rfl, h2, h3, h4, h5⟩
  | loop c ih =>
    intro ir Q st hc hn h
    have hc' := hc
    simp only [cmpC, Option.map_eq_some_iff] at hc
    obtain ⟨irx, hx, rfl⟩ := hc
    exact h N ann _ n0 hc' hn
  | exit id =>
    intro ir Q st hc hn h w β F a hR
    simp only [cmpC, Option.some.injEq] at hc; subst hc
    exact wp_exit ⟨.exit id, β, st, rfl, (Adv.lev ⟨hR.hok, .refl _, .refl _ _⟩), hR, hn, h⟩
  | ret =>
    intro ir Q st hc hn h w β F a hR
    simp only [cmpC, Option.some.injEq] at hc; subst hc
    exact wp_ret ⟨.ret, β, st, rfl, (Adv.lev ⟨hR.hok, .refl _, .refl _ _⟩), hR, hn, h⟩
  | _ => intro ir Q st hc; simp [cmpC] at hc

end
end Go.Abs

/- Loops, functions. -/
namespace Go.Abs
set_option linter.unusedVariables false

section
variable {P : Program}

theorem WI.mono {ir : C} {Q Q' : Ex → St → Prop} {st : St} (h : WI P ir Q st) (hq : ∀ e s, Q e s → Q' e s) : WI P ir Q' st :=
  fun N ann code n0 hc hn => (h N ann code n0 hc hn).mono hq

/-- Later objects are forgotten. -/
theorem rel_trim {N n0 n : Nat} {F : Nat → Prop} {w : World} {β : Nat → Hd} {st : St} {a : Act} (hR : Rel w β F N st a) (hn : n0 ≤ n) :
    Lev n0 F w st.hp β w (st.trim n).hp β ∧ Rel w β F N (st.trim n) a := by
  have hk := hR.hok
  have hget : ∀ {id : Nat} {o : O}, ((st.hp.take n).map (limO n))[id]? = some o → id < n ∧ ∃ o', st.hp[id]? = some o' ∧ o = limO n o' := by
    intro id o h
    simp only [List.getElem?_map, Option.map_eq_some_iff] at h
    obtain ⟨o', h, rfl⟩ := h
    rw [List.getElem?_take] at h
    split at h
    · next hlt => exact ⟨hlt, o', h, rfl⟩
    · cases h
  have hown : ∀ id b, ownsB ((st.hp.take n).map (limO n)) β id b → ownsB st.hp β id b := by
    intro id b h
    unfold ownsB at h
    cases h1 : ((st.hp.take n).map (limO n))[id]? with
    | none => rw [h1] at h; exact h.elim
    | some o =>
      obtain ⟨hlt, o', h2, rfl⟩ := hget h1
      rw [h1] at h
      unfold ownsB
      rw [h2]
      unfold limO at h
      split at h
      · next e =>
        split at e
        · injection e with e; subst e; exact h
        · cases e
      · next e =>
        split at e
        · injection e with e; subst e; exact h
        · cases e
      · next e =>
        split at e
        · injection e with e; subst e; exact h
        · cases e
      · next e =>
        split at e
        · injection e with e; subst e; exact h
        · cases e
      · exact h.elim
  have hhd : ∀ id g, hdOf ((st.hp.take n).map (limO n)) β id = some g → hdOf st.hp β id = some g := by
    intro id g h
    unfold hdOf at h
    cases h1 : ((st.hp.take n).map (limO n))[id]? with
    | none => rw [h1] at h; cases h
    | some o =>
      obtain ⟨hlt, o', h2, rfl⟩ := hget h1
      rw [h1] at h
      unfold hdOf
      rw [h2]
      unfold limO at h
      split at h
      · next e =>
        split at e
        · injection e with e; subst e; exact h
        · cases e
      · next e =>
        split at e
        · injection e with e; subst e; exact h
        · cases e
      · next e =>
        split at e
        · injection e with e; subst e; exact h
        · cases e
      · next e =>
        split at e
        · injection e with e; subst e; exact h
        · cases e
      · cases h
  have hlive : ∀ id, id < n → liveIn st.hp id → liveIn ((st.hp.take n).map (limO n)) id := by
    rintro id hlt ⟨o, h1, h2⟩
    refine ⟨limO n o, ?_, ?_⟩
    · simp [List.getElem?_take, hlt, h1]
    · unfold limO; split
      · exact h2
      · intro e; cases e
  have hle : ∀ refs : List Nat, (∀ i ∈ refs, i < n) → ((cx w.heap st.hp β F).only refs).le ((cx w.heap ((st.hp.take n).map (limO n)) β F).only refs) := by
    intro refs hrefs
    refine ⟨Nat.le_refl _, fun b hb hno => ⟨rfl, fun e => hno ?_⟩, fun id hl => ⟨hl.1, hlive id (hrefs id hl.1) hl.2⟩, fun id g' hl e => .inl (hhd id g' e)⟩
    rcases e with ⟨id, e⟩ | e
    · exact .inl ⟨id, hown id b e⟩
    · exact .inr e
  refine ⟨⟨Nat.le_refl _, fun b hb hno => ⟨rfl, fun e => hno ?_⟩, fun id hi hl => hlive id (Nat.lt_of_lt_of_le hi hn) hl, fun id g' _ _ e => .inl (hhd id g' e), .refl _ _, fun b ⟨id, e⟩ => .inl ⟨id, hown id b e⟩⟩, ⟨⟨fun id o h => ?_, fun id id' b h1 h2 => hk.one id id' b (hown _ _ h1) (hown _ _ h2), fun b hb => ⟨(hk.far b hb).1, fun ⟨id, e⟩ => (hk.far b hb).2 ⟨id, hown _ _ e⟩⟩⟩, fun t => ?_, hR.df, hR.sz⟩⟩
  · rcases e with ⟨id, e⟩ | e
    · exact .inl ⟨id, hown id b e⟩
    · exact .inr e
  · obtain ⟨hlt, o', h2, rfl⟩ := hget h
    have hro := hk.ro id o' h2
    unfold limO
    split
    · next hrefs =>
      have hrefs' : ∀ i ∈ o'.refs, i < n := fun i hi => by simpa using List.all_eq_true.1 hrefs i hi
      have hownb : ∀ b, (cx w.heap ((st.hp.take n).map (limO n)) β F).own b → (cx w.heap st.hp β F).own b := by
        rintro b (⟨id, e⟩ | e)
        · exact .inl ⟨id, hown id b e⟩
        · exact .inr e
      cases o' with
      | res => trivial
      | dead => trivial
      | sit s pos => exact hro
      | tree refs rows =>
        rcases hro with hro | ⟨q1, q2, q3, q4, q5⟩
        · exact .inl hro
        · exact .inr ⟨q1, q2, q3, q4.mono (hle refs hrefs') fun _ _ => rfl, q5⟩
      | mem fz refs rows =>
        rcases hro with hro | ⟨q1, q2, q3, q4, q5, cs, E, fr, q6, q7, q8, q9⟩
        · exact .inl hro
        · refine .inr ⟨q1, q2, q3, q4, fun e k => q5 e (hownb _ k), cs, E, fr, q6, q7, q8, fun i row hi hlo j x hj => ?_⟩
          obtain ⟨v, e1, e2, e3⟩ := q9 i row hi hlo j x hj
          exact ⟨v, e1, e2, e3.mono (hle refs hrefs')⟩
      | map fz refs es =>
        obtain ⟨q1, ents, clock, q2, q3, q4, q5, q6⟩ := hro
        exact ⟨fun e k => q1 e (hownb _ k), ents, clock, q2, q3, q4, q5, fun i e x he hx => ⟨(q6 i e x he hx).1.mono (hle [] (by simp)), (q6 i e x he hx).2.mono (hle refs hrefs')⟩⟩
    · trivial
  · show RV _ _ (lim n (gt st.sl t))
    unfold lim
    split
    · next h =>
      have h' : ∀ i ∈ (gt st.sl t).ids, i < n := fun i hi => by simpa using List.all_eq_true.1 h i hi
      exact (((hR.sl t).onlyOf _ fun i hi => hi).mono (hle _ h')).up
    · exact .any

/-- A loop: what holds at each round's head; what every round lowers. Objects from n on are a round's own. -/
theorem WI.loop {c : C} {Q : Ex → St → Prop} {st : St} (n : Nat) (hn : st.hp.length ≤ n) (I : St → Prop) (μ : St → Nat) (h0 : I st)
    (hr : ∀ s, I s → vc P c (fun e s' => match e with | .norm => I (s'.trim n) ∧ μ (s'.trim n) < μ s | .exit i => Q (.exit i) s' | .ret => Q .ret s') s) : WI P (.loop c) Q st := by
  intro N ann code n0 hc hn0 w β F a hR
  cases code with
  | loop code =>
    simp only [cmpC, Option.map_eq_some_iff, C.loop.injEq] at hc
    obtain ⟨irx, hx, rfl⟩ := hc
    have key : ∀ (m : Nat) (s : St) (w' : World) (β' : Nat → Hd) (a' : Act), I s → μ s ≤ m → Lev n0 F w st.hp β w' s.hp β' → Rel w' β' F N s a' → n0 ≤ s.hp.length →
        Code.rounds P code (Lift N n0 F w st β Q) (m + 1) a' w' := by
      intro m
      induction m with
      | zero =>
        intro s w' β' a' hI hm hL hR' hn'
        refine wp_mono (vc_sound code irx _ s hx hn' (hr s hI) w' β' F a' hR') fun e a2 w2 hL2 => ?_
        obtain ⟨x, β2, s2, rfl, h2, h3, h4, h5⟩ := hL2
        cases x with
        | norm => obtain ⟨_, h5⟩ := h5; omega
        | exit i => exact ⟨.exit i, β2, s2, rfl, hL.trans h2, h3, h4, h5⟩
        | ret => exact ⟨.ret, β2, s2, rfl, hL.trans h2, h3, h4, h5⟩
      | succ m ih =>
        intro s w' β' a' hI hm hL hR' hn'
        refine wp_mono (vc_sound code irx _ s hx hn' (hr s hI) w' β' F a' hR') fun e a2 w2 hL2 => ?_
        obtain ⟨x, β2, s2, rfl, h2, h3, h4, h5⟩ := hL2
        cases x with
        | norm =>
          obtain ⟨h5, h6⟩ := h5
          obtain ⟨t1, t2⟩ := rel_trim h3 (n := n) (n0 := n0) (Nat.le_trans hn0 hn)
          exact ih (s2.trim n) w2 β2 a2 h5 (by omega) ((hL.trans h2).trans t1) t2 (by simp [St.trim]; omega)
        | exit i => exact ⟨.exit i, β2, s2, rfl, hL.trans h2, h3, h4, h5⟩
        | ret => exact ⟨.ret, β2, s2, rfl, hL.trans h2, h3, h4, h5⟩
    exact wp_loop_rounds (μ st + 1) (key (μ st) st w β a h0 (Nat.le_refl _) (Adv.lev ⟨hR.hok, .refl _, .refl _ _⟩) hR hn0)
  | skip => simp [cmpC] at hc
  | region id ops draw =>
    simp only [cmpC] at hc
    split at hc
    · obtain ⟨n, its, h, _⟩ := draw_sound (F := F) (id := id) hc
      cases h
    · simp [cmpReg] at hc
  | seq a b =>
    simp only [cmpC, Option.bind_eq_some_iff, Option.map_eq_some_iff] at hc
    obtain ⟨_, _, _, _, h⟩ := hc
    cases h
  | cond x a b =>
    simp only [cmpC, Option.bind_eq_some_iff, Option.map_eq_some_iff] at hc
    obtain ⟨_, _, _, _, h⟩ := hc
    cases h
  | block id c =>
    simp only [cmpC, Option.map_eq_some_iff] at hc
    obtain ⟨_, _, h⟩ := hc
    cases h
  | _ => simp [cmpC] at hc

end
end Go.Abs
