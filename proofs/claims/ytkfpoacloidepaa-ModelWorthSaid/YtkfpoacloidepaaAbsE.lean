import Derived.Test.YtkfpoacloidepaaAbsD
set_option linter.all false
/- Operations that leave memory alone: the machine does so. -/
namespace Go.Abs
set_option linter.unusedVariables false

section
variable {w : World} {H : Heap} {β : Nat → Hd} {F : Nat → Prop}

theorem mem_get {id : Nat} (h : (H.getD id .dead).isMem = true) : ∃ fz refs rows, H[id]? = some (.mem fz refs rows) ∧ (H.getD id .dead).rows = rows := by
  cases hid : H[id]? with
  | none => simp [List.getD, hid, O.isMem] at h
  | some o =>
    have hgd : H.getD id .dead = o := getD_some hid
    rw [hgd] at h ⊢
    cases o with
    | mem fz refs rows => exact ⟨_, _, _, rfl, rfl⟩
    | _ => simp [O.isMem] at h

theorem RV.sl {v : Value} {x : V} (hk : HOK w.heap H β F) (hr : RV (cx w.heap H β F) v x) (ho : okSl H x) :
    ∃ base len cap, v = .slice base len cap ∧ (len : Int) = x.slLen ∧ len ≤ cap ∧ (x.nilSl = true → base = none ∧ cap = 0) ∧
      ∀ es, x.slEs es → ∀ i, i < len → ∃ ad, base = some ad ∧ RV (cx w.heap H β F) (.pointer (some (ad.add (i * es)))) (x.elemAt i) := by
  cases hr with
  | own hl h =>
    rename_i id es off len tot
    obtain ⟨h1, h2⟩ := ho
    obtain ⟨fz, refs, rows, hid, hrw⟩ := mem_get h1
    rw [hrw] at h2
    obtain ⟨g1, g2⟩ := h ((β id).wt rows.length) (by show hdOf H β id = _; simp [hdOf, hid])
    obtain ⟨g3, g4, g5⟩ := g2 h2
    rcases g5 with ⟨g6, rfl, rfl⟩ | ⟨g6, ad, rfl, g7, g8⟩
    · exact ⟨none, 0, 0, rfl, rfl, Nat.le_refl _, fun e => ⟨rfl, rfl⟩, fun es _ i hi => by omega⟩
    · have g6' : (β id).nil = false := g6
      have g7' : off + len ≤ rows.length := g7
      have g3' : (β id).lo ≤ off := g3
      rcases hk.ro id _ hid with hr | ⟨_, q2, q3, _⟩
      · rw [hr.1] at g6'; cases g6'
      · refine ⟨some ad, len, _, rfl, rfl, ?_, fun e => by simp [V.nilSl] at e, fun es' he i hi => ⟨ad, rfl, ?_⟩⟩
        · show len ≤ (β id).cap - (off - (β id).lo); omega
        · have he : es = es' := he
          subst he
          have hlt : off - (β id).lo < (β id).cap := by omega
          have g8' : ad = ⟨(β id).b, (β id).o + (off - (β id).lo) * (β id).es, none⟩ := g8 hlt
          have g4' : (β id).es = es := g4
          rw [g8', addr_add]
          refine .ptr hl fun h0 e0 => ?_
          have e1 : hdOf H β id = some ((β id).wt rows.length) := by simp [hdOf, hid]
          have e2 : some h0 = some ((β id).wt rows.length) := e0.symm.trans e1
          injection e2 with e2
          subst e2
          refine ⟨g1, fun _ => ⟨?_, g6, ?_⟩⟩
          · show (β id).lo ≤ off + i; omega
          · show Value.pointer _ = Value.pointer (some ⟨(β id).b, (β id).o + (off + i - (β id).lo) * (β id).es + 0, none⟩)
            rw [g4', show off + i - (β id).lo = (off - (β id).lo) + i from by omega, Nat.add_mul, Nat.add_zero, Nat.add_assoc]
  | nilv => exact ⟨none, 0, 0, rfl, rfl, Nat.le_refl _, fun e => ⟨rfl, rfl⟩, fun es _ i hi => by omega⟩
  | view g hb hcap hlen hg hr =>
    rename_i es rows ad cap
    refine ⟨some ad, rows.length, cap, rfl, rfl, hcap, fun e => by simp [V.nilSl] at e, fun es' he i hi => ⟨ad, rfl, ?_⟩⟩
    have he : es = es' := he
    subst he
    have hne : rows ≠ [] := by rintro rfl; simp at hi
    obtain ⟨q1, q2, q3⟩ := hb hne
    have hi' : rows[i]? = some (rows.getD i []) := get_of_getD hi
    have : ad.add (i * es) = ⟨ad.block, ad.off + i * es + 0, none⟩ := by
      rw [show ad = ⟨ad.block, ad.off, none⟩ from by rw [← q3], addr_add]; rfl
    rw [this]
    exact .ref (g i) q1 q2 (fun k x hx => hg i _ hi' k x hx) fun k x hx => hr i _ hi' k x hx
  | a =>
    have ho' : v = .slice none 0 0 := by
      cases v with
      | slice b n c =>
        unfold okSl at ho
        split at ho <;> first | exact ho.elim | skip
        · rename_i h; injection h
        · rename_i h; injection h
        · rename_i h; injection h
      | _ => exact ho.elim
    subst ho'
    exact ⟨none, 0, 0, rfl, rfl, Nat.le_refl _, fun e => ⟨rfl, rfl⟩, fun es _ i hi => by omega⟩
  | any => exact ho.elim
  | ptr => exact ho.elim
  | ref => exact ho.elim
  | agg => exact ho.elim
  | tup => exact ho.elim
  | fn => exact ho.elim
  | mp => exact ho.elim
  | mview => exact ho.elim
  | ifc => exact ho.elim

/-- An address, moved on within its row. -/
theorem RV.plus {v : Value} {x : V} (hk : HOK w.heap H β F) (hr : RV (cx w.heap H β F) v x) (ho : okAt H x) (n : Nat) :
    ∃ b o, v = .pointer (some ⟨b, o, none⟩) ∧ RV (cx w.heap H β F) (.pointer (some ⟨b, o + n, none⟩)) (x.plus n) := by
  cases hr with
  | ptr hl h =>
    rename_i id tot i j
    obtain ⟨h1, h2, h3⟩ := ho
    obtain ⟨fz, refs, rows, hid, hrw⟩ := mem_get h1
    rw [hrw] at h2
    have e1 : (cx w.heap H β F).hd id = some ((β id).wt rows.length) := by show hdOf H β id = _; simp [hdOf, hid]
    obtain ⟨g1, g2⟩ := h _ e1
    obtain ⟨g3, g4, g5⟩ := g2 h2
    refine ⟨_, _, g5, .ptr hl fun h0 e0 => ?_⟩
    rw [e1] at e0
    injection e0 with e0
    subst e0
    exact ⟨g1, fun _ => ⟨g3, g4, by rw [Nat.add_assoc]⟩⟩
  | ref g hb hs hg hr => exact ⟨_, _, rfl, by rw [Nat.add_assoc]; exact .ref g hb hs hg hr⟩
  | any => exact ho.elim
  | a => exact ho.elim
  | own => exact ho.elim
  | nilv => exact ho.elim
  | view => exact ho.elim
  | agg => exact ho.elim
  | tup => exact ho.elim
  | fn => exact ho.elim
  | mp => exact ho.elim
  | mview => exact ho.elim
  | ifc => exact ho.elim

theorem RV.of_agg {c : Cx} {v : Value} {cs : List V} (h : RV c v (.agg cs)) : ∃ vs : Array Value, v = .agg vs ∧ vs.size = cs.length ∧ (∀ (i : Nat) (u : Value) (y : V), vs[i]? = some u → cs[i]? = some y → RV c u y) ∧
    ∀ (i : Nat) (v : Value), vs[i]? = some v → v.oneCell' = true := by
  cases h with
  | agg hl ho h => exact ⟨_, rfl, hl, h, ho⟩

theorem RV.of_tup {c : Cx} {v : Value} {cs : List V} (h : RV c v (.tup cs)) : ∃ vs : Array Value, v = .tuple vs ∧ vs.size = cs.length ∧ ∀ (i : Nat) (u : Value) (y : V), vs[i]? = some u → cs[i]? = some y → RV c u y := by
  cases h with
  | tup hl h => exact ⟨_, rfl, hl, h⟩

/-- A part of a struct's cells. -/
theorem run_part' {P : Program} {t : TypeId} {i : TypeInfo} {agg : Bool} {vs : Array Value} {cs : List V} {off : Nat} {c : Cx} (hi : P.info? t = some i) (ha : isAggP P t = some agg)
    (hl : vs.size = cs.length) (h : ∀ (i : Nat) (u : Value) (y : V), vs[i]? = some u → cs[i]? = some y → RV c u y) (hone : ∀ (i : Nat) (v : Value), vs[i]? = some v → v.oneCell' = true) (hp : off + (if agg then i.size else 1) ≤ cs.length) :
    ∃ u, (part t vs off).run P w = .ok u w ∧ RV c u (if agg then .agg ((cs.drop off).take i.size) else cs.getD off .any) := by
  unfold part
  simp only [Sem.run_bind, run_isAgg ha, Result.andThen_ok]
  cases agg with
  | true =>
    simp only [if_true] at hp ⊢
    refine ⟨_, by simp [run_sizeOf' hi]; rfl, .agg ?_ (fun k u hk => ?_) fun k u y hk hy => ?_⟩
    · simp; omega
    · rw [Array.getElem?_extract] at hk
      split at hk
      · exact hone _ u hk
      · cases hk
    · rw [Array.getElem?_extract] at hk
      rw [List.getElem?_take] at hy
      split at hk
      · split at hy
        · rw [List.getElem?_drop] at hy
          exact h _ u y hk hy
        · cases hy
      · cases hk
  | false =>
    simp only [Bool.false_eq_true, if_false] at hp ⊢
    have h1 : vs[off]? = some vs[off] := Array.getElem?_eq_getElem (by omega)
    refine ⟨vs[off], by simp [h1], h off _ _ h1 (get_of_getD (by omega))⟩

theorem run_equalIn_bool {P : Program} {t : TypeId} {x y : Bool} (d : Nat) (hu : P.underlying t = some .bool) :
    (Op.equalIn (d + 1) t (.bool x) (.bool y)).run P w = .ok (x == y) w := by
  simp only [Op.equalIn, Sem.run_bind, run_underlying' hu, Result.andThen_ok, Sem.run_pure]

theorem run_equalIn_nil {P : Program} {t e : TypeId} {b : Option Addr} {n c n' c' : Nat} (d : Nat) (hu : P.underlying t = some (.slice e)) :
    (Op.equalIn (d + 1) t (.slice b n c) (.slice none n' c')).run P w = .ok b.isNone w := by
  cases b <;> simp [Op.equalIn, run_underlying' hu]

theorem run_binOp_boolEq {P : Program} {t : TypeId} {x y : Bool} (neg : Bool) (hu : P.underlying t = some .bool) :
    (binOp (if neg then .neq else .eql) t (.bool x) (.bool y)).run P w = .ok (.bool ((x == y) ^^ neg)) w := by
  have h : (Op.equal t (.bool x) (.bool y)).run P w = .ok (x == y) w := by
    exact run_equalIn_bool 9999 hu
  cases neg
  · show (do pure (Value.bool (← Op.equal t (.bool x) (.bool y))) : Sem Value).run P w = _
    simp [h]
  · show (do pure (Value.bool (!(← Op.equal t (.bool x) (.bool y)))) : Sem Value).run P w = _
    simp [h]

theorem run_binOp_nil {P : Program} {t e : TypeId} {b b' : Option Addr} {n c n' c' : Nat} (neg : Bool) (hu : P.underlying t = some (.slice e)) (hb' : b' = none) :
    (binOp (if neg then .neq else .eql) t (.slice b n c) (.slice b' n' c')).run P w = .ok (.bool (b.isNone ^^ neg)) w := by
  subst hb'
  have h : (Op.equal t (.slice b n c) (.slice none n' c')).run P w = .ok b.isNone w := by
    exact run_equalIn_nil 9999 hu
  cases neg
  · show (do pure (Value.bool (← Op.equal t (.slice b n c) (.slice none n' c'))) : Sem Value).run P w = _
    simp [h]
  · show (do pure (Value.bool (!(← Op.equal t (.slice b n c) (.slice none n' c')))) : Sem Value).run P w = _
    simp [h]

theorem RV.one {v : Value} {x : V} (hk : HOK w.heap H β F) (hr : RV (cx w.heap H β F) v x) (ho : x.one H) : v.oneCell' = true := by
  cases hr with
  | a => exact ho
  | ptr hl h =>
    rename_i id tot i j
    obtain ⟨h1, h2⟩ := ho
    obtain ⟨fz, refs, rows, hid, hrw⟩ := mem_get h1
    rw [hrw] at h2
    obtain ⟨_, g2⟩ := h ((β id).wt rows.length) (by show hdOf H β id = _; simp [hdOf, hid])
    rw [(g2 h2).2.2]; rfl
  | own hl h =>
    rename_i id es off len tot
    obtain ⟨h1, h2⟩ := ho
    obtain ⟨fz, refs, rows, hid, hrw⟩ := mem_get h1
    rw [hrw] at h2
    obtain ⟨_, g2⟩ := h ((β id).wt rows.length) (by show hdOf H β id = _; simp [hdOf, hid])
    obtain ⟨_, _, g⟩ := g2 h2
    rcases g with ⟨_, rfl, _⟩ | ⟨_, ad, rfl, _⟩ <;> rfl
  | mp hl h =>
    rename_i id
    have h1 : (H.getD id .dead).isMap = true := ho
    cases hid : H[id]? with
    | none => simp [List.getD, hid, O.isMap] at h1
    | some o =>
      rw [getD_some hid] at h1
      cases o with
      | map fz refs es => rw [h ((β id).wt 0) (by show hdOf H β id = _; simp [hdOf, hid]) rfl]; rfl
      | _ => simp [O.isMap] at h1
  | any => exact ho.elim
  | agg => exact ho.elim
  | tup => exact ho.elim
  | ref => rfl
  | nilv => rfl
  | view => rfl
  | fn => rfl
  | mview => rfl
  | ifc => rfl

theorem cells_one {v : Value} (h : v.oneCell' = true) : v.cells = #[v] := by
  cases v <;> first | rfl | simp [Value.oneCell'] at h

/-- A value's cells. -/
theorem RV.sized {v : Value} {x : V} {n : Nat} (hk : HOK w.heap H β F) (hr : RV (cx w.heap H β F) v x) (ho : x.sized H n) :
    v.cells.size = n ∧ x.cells.length = n ∧ (∀ (i : Nat) (u : Value) (y : V), v.cells[i]? = some u → x.cells[i]? = some y → RV (cx w.heap H β F) u y) ∧
      ∀ (i : Nat) (u : Value), v.cells[i]? = some u → u.oneCell' = true := by
  by_cases hagg : ∃ cs, x = .agg cs
  · obtain ⟨cs, rfl⟩ := hagg
    obtain ⟨vs, rfl, h1, h2, h3⟩ := hr.of_agg
    have ho : cs.length = n := ho
    exact ⟨h1.trans ho, ho, h2, h3⟩
  · have h1 : x.one H ∧ n = 1 := by
      cases x <;> first | exact ho | exact (hagg ⟨_, rfl⟩).elim
    have h2 : x.cells = [x] := by
      cases x <;> first | rfl | exact (hagg ⟨_, rfl⟩).elim
    have h3 := hr.one hk h1.1
    rw [cells_one h3, h2, h1.2]
    refine ⟨rfl, rfl, fun i u y hu hy => ?_, fun i u hu => ?_⟩
    · cases i with
      | zero => simp at hu hy; subst hu hy; exact hr
      | succ i => simp at hu
    · cases i with
      | zero => simp at hu; subst hu; exact h3
      | succ i => simp at hu

theorem foldl_setIf {α : Type} (l : List α) : ∀ (cs : Array α) (off k : Nat), k + l.length ≤ cs.size - off → off ≤ cs.size →
    (((l.zipIdx k).foldl (fun cs (p : α × Nat) => cs.setIfInBounds (off + p.2) p.1) cs).toList) = cs.toList.take (off + k) ++ l ++ cs.toList.drop (off + k + l.length) := by
  induction l with
  | nil => intro cs off k h _; simp
  | cons x l ih =>
    intro cs off k h ho
    simp only [List.zipIdx_cons, List.foldl_cons, List.length_cons] at h ⊢
    rw [ih _ off (k + 1) (by simp; omega) (by simp; omega)]
    simp only [Array.toList_setIfInBounds]
    have hlen : off + k < cs.toList.length := by simp; omega
    rw [List.take_set, show off + (k + 1) = (off + k) + 1 from by omega, List.take_add_one, List.drop_set]
    rw [if_pos (by omega)]
    have e : cs.toList[off + k]?.toList = [cs.toList[off + k]] := by rw [List.getElem?_eq_getElem hlen]; rfl
    rw [e, List.set_append]
    rw [if_neg (by simp; omega)]
    simp only [List.length_take]
    rw [show off + k - min (off + k) cs.toList.length = 0 from by omega]
    simp only [List.set_cons_zero, List.append_assoc, List.cons_append, List.nil_append]
    rw [show off + k + 1 + l.length = off + k + (l.length + 1) from by omega]

end
end Go.Abs
