import Derived.Test.YtkfpoacloidepaaAbsE
set_option linter.all false
/- Operations that leave memory alone: the machine does so (2). -/
namespace Go.Abs
set_option linter.unusedVariables false

section
variable {P : Program} {w : World} {β : Nat → Hd} {F : Nat → Prop} {N : Nat} {st : St} {a : Act}

theorem RV.of_int {c : Cx} {v : Value} {x : V} (h : RV c v x) (hi : x.isInt = true) : v = .int x.kindOf x.num := by
  rw [x.eq_int hi] at h; exact h.of_a
theorem RV.of_bool {c : Cx} {v : Value} {x : V} (h : RV c v x) (hi : x.isBool = true) : v = .bool x.tru := by
  rw [x.eq_bool hi] at h; exact h.of_a
theorem RV.of_str {c : Cx} {v : Value} {x : V} (h : RV c v x) (hi : x.isStr = true) : v = .string x.txt := by
  rw [x.eq_str hi] at h; exact h.of_a

theorem RV.of_okAt {v : Value} {x : V} (hk : HOK w.heap st.hp β F) (hr : RV (cx w.heap st.hp β F) v x) (ho : okAt st.hp x) : ∃ b o, v = .pointer (some ⟨b, o, none⟩) := by
  obtain ⟨b, o, h, _⟩ := hr.cells hk ho
  exact ⟨b, o, h⟩

theorem binP_cases {op : BinOp} {x y : V} (h : binP op x y) :
    (∃ k k' m n, x = .a (.int k m) ∧ y = .a (.int k' n) ∧ binIP op k k' n) ∨ (∃ s t, x = .a (.string s) ∧ y = .a (.string t) ∧ binSP op s t) := by
  unfold binP at h
  split at h
  · exact .inl ⟨_, _, _, _, rfl, rfl, h⟩
  · exact .inr ⟨_, _, rfl, rfl, h⟩
  · exact h.elim

theorem sound_bin (hR : Rel w β F N st a) {op : BinOp} {t t' : TypeId} {x y : Operand} (hp : binP op (st.ev x) (st.ev y)) :
    ∃ v, (do eqGuard op t x y (a.eval x) (a.eval y); binOp op t (a.eval x) (a.eval y) : Sem Value).run P w = .ok v w ∧ RV (cx w.heap st.hp β F) v (binV op (st.ev x) (st.ev y)) := by
  have hx := hR.ev x
  have hy := hR.ev y
  rcases binP_cases hp with ⟨k, k', m, n, e1, e2, h⟩ | ⟨s, u, e1, e2, h⟩
  · rw [e1] at hx; rw [e2] at hy
    rw [hx.of_a, hy.of_a, e1, e2]
    exact ⟨_, by simp only [Sem.run_bind, eqGuard_int, Result.andThen_ok, run_binOp_int h], .a⟩
  · rw [e1] at hx; rw [e2] at hy
    rw [hx.of_a, hy.of_a, e1, e2]
    exact ⟨_, by simp only [Sem.run_bind, eqGuard_str, Result.andThen_ok, run_binOp_str h], .a⟩

theorem eqGuard_bool {op : BinOp} {t : TypeId} {x y : Operand} {p q : Bool} : (eqGuard op t x y (.bool p) (.bool q)).run P w = .ok () w := by
  unfold eqGuard; split <;> simp
theorem eqGuard_slice {op : BinOp} {t : TypeId} {x y : Operand} {p q : Option Addr} {n c n' c' : Nat} : (eqGuard op t x y (.slice p n c) (.slice q n' c')).run P w = .ok () w := by
  unfold eqGuard; split <;> simp

theorem run_max2 {mx : Bool} {k k' : IntKind} {x y : Int} : ((if mx then Builtin.max2 else Builtin.min2) (.int k x) (.int k' y)).run P w = .ok (.int k (mxI mx x y)) w := by
  cases mx <;> simp [Builtin.max2, Builtin.min2, mxI]

theorem run_foldMax {mx : Bool} (ys : List Operand) (hR : Rel w β F N st a) : ∀ (k : IntKind) (n : Int), (∀ y ∈ ys, (st.ev y).isInt = true) →
    ((ys.map a.eval).foldlM (if mx then Builtin.max2 else Builtin.min2) (.int k n)).run P w = .ok (.int k (ys.foldl (fun n y => mxI mx n (st.ev y).num) n)) w := by
  induction ys with
  | nil => intro k n _; simp
  | cons y ys ih =>
    intro k n h
    simp only [List.map_cons, List.foldlM_cons, Sem.run_bind, List.foldl_cons]
    rw [(hR.ev y).of_int (h y (by simp)), run_max2]
    simp only [Result.andThen_ok]
    exact ih _ _ fun z hz => h z (by simp [hz])

/-- Bounds of a slice expression. -/
theorem run_bound (hR : Rel w β F N st a) {x : Operand} {y : Nat} {code : BoundsCode} (hi : (st.ev x).isInt = true) (h0 : 0 ≤ (st.ev x).num) (h1 : (st.ev x).num ≤ y) :
    (Instr.sliceBound (a.eval x) y code).run P w = .ok (st.ev x).num.toNat w := by
  rw [(hR.ev x).of_int hi]
  simp [Instr.sliceBound, asIntOf, h0, h1]

theorem run_sliceBounds (hR : Rel w β F N st a) {sl : Bool} {len cap : Nat} {lo hi : Option Operand} (hlc : len ≤ cap) (p1 : optP st lo) (p2 : optP st hi)
    (h0 : 0 ≤ optN st 0 lo) (h1 : optN st 0 lo ≤ optN st len hi) (h2 : optN st len hi ≤ len) :
    (Instr.sliceBounds sl len cap (lo.map a.eval) (hi.map a.eval) none).run P w = .ok ((optN st 0 lo).toNat, (optN st len hi).toNat, cap) w := by
  unfold Instr.sliceBounds
  cases hi with
  | none =>
    cases lo with
    | none => simp [optN]
    | some l =>
      simp only [optN, optP] at *
      simp only [Option.map, Sem.run_bind, Sem.run_pure, Result.andThen_ok]
      rw [run_bound hR p1 h0 (by omega)]
      simp
  | some h =>
    have h0' := h0
    simp only [optN, optP] at h1 h2 p2
    unfold optN at h0'
    have hb : (Instr.sliceBound (a.eval h) cap (if sl = true then .sliceAcap else .sliceAlen)).run P w = .ok (st.ev h).num.toNat w := run_bound hR p2 (by omega) (by omega)
    simp only [Option.map, Sem.run_bind, Sem.run_pure, Result.andThen_ok]
    rw [hb]
    cases lo with
    | none => simp [optN]
    | some l =>
      simp only [optN, optP] at h0 h1 p1
      simp only [Result.andThen_ok, Sem.run_bind, Sem.run_pure, Option.isSome_none, Bool.false_eq_true, if_false]
      rw [run_bound hR p1 h0 (by omega)]
      simp [optN]

theorem V.slLen_nonneg (x : V) : 0 ≤ x.slLen := by cases x <;> simp [V.slLen]

/-- A slice of a slice. -/
theorem RV.cut {v : Value} {x : V} (hk : HOK w.heap st.hp β F) (hr : RV (cx w.heap st.hp β F) v x) (ho : okSl st.hp x) {es lo hi : Nat} (he : x.slEs es) (h1 : lo ≤ hi) (h2 : (hi : Int) ≤ x.slLen) :
    ∃ base len cap, v = .slice base len cap ∧ (len : Int) = x.slLen ∧ len ≤ cap ∧
      RV (cx w.heap st.hp β F) (.slice (if cap = lo then base else base.map (·.add (lo * es))) (hi - lo) (cap - lo)) (x.cut lo hi) := by
  obtain ⟨base0, len0, cap0, e0, hl0, hc0, -, -⟩ := hr.sl hk ho
  refine ⟨base0, len0, cap0, e0, hl0, hc0, ?_⟩
  subst e0
  cases hr with
  | own hl h =>
    rename_i id es' off len1 tot
    have he : es' = es := he
    subst he
    obtain ⟨q1, q2⟩ := ho
    obtain ⟨fz, refs, rows, hid, hrw⟩ := mem_get q1
    rw [hrw] at q2
    have e1 : (cx w.heap st.hp β F).hd id = some ((β id).wt rows.length) := by show hdOf st.hp β id = _; simp [hdOf, hid]
    obtain ⟨g1, g2⟩ := h _ e1
    obtain ⟨g3, g4, g5⟩ := g2 q2
    refine .own hl fun h0 e => ?_
    rw [e1] at e; injection e with e; subst e
    have g3' : (β id).lo ≤ off := g3
    refine ⟨g1, fun _ => ⟨by show (β id).lo ≤ off + lo; omega, g4, ?_⟩⟩
    have g4' : (β id).es = es' := g4
    simp only [V.slLen] at h2 hl0
    rcases g5 with ⟨g6, g7, g8⟩ | ⟨g6, ad, g7, g8, g9⟩
    · injection g7 with a1 a2 a3
      subst a1 a2 a3
      refine .inl ⟨g6, ?_, by omega⟩
      have : lo = 0 ∧ hi = 0 := by omega
      obtain ⟨rfl, rfl⟩ := this
      simp
    · injection g7 with a1 a2 a3
      subst a1
      have a3' : cap0 = (β id).cap - (off - (β id).lo) := a3
      refine .inr ⟨g6, if cap0 = lo then ad else ad.add (lo * es'), ?_, ?_, ?_⟩
      · show Value.slice _ _ _ = Value.slice _ _ ((β id).cap - (off + lo - (β id).lo))
        have : cap0 - lo = (β id).cap - (off + lo - (β id).lo) := by omega
        rw [this]
        congr 1
        split <;> rfl
      · show off + lo + (hi - lo) ≤ rows.length
        have : off + len1 ≤ rows.length := g8
        omega
      · intro hlt
        have hlt' : off + lo - (β id).lo < (β id).cap := hlt
        rw [if_neg (by omega)]
        have g9' : ad = ⟨(β id).b, (β id).o + (off - (β id).lo) * (β id).es, none⟩ := g9 (by show off - (β id).lo < (β id).cap; omega)
        rw [g9', addr_add]
        show (⟨_, _, none⟩ : Addr) = ⟨(β id).b, (β id).o + (off + lo - (β id).lo) * (β id).es, none⟩
        rw [g4', show off + lo - (β id).lo = (off - (β id).lo) + lo from by omega, Nat.add_mul, Nat.add_assoc]
  | nilv =>
    simp only [V.slLen, List.length_nil] at h2 hl0
    have : lo = 0 ∧ hi = 0 := by omega
    obtain ⟨rfl, rfl⟩ := this
    simp only [V.cut, List.drop_nil, List.take_nil]
    exact .nilv
  | view g hb hcap hlen hg hr =>
    rename_i es' rows ad
    have he : es' = es := he
    subst he
    simp only [V.slLen] at h2
    have hlen' : ((rows.drop lo).take (hi - lo)).length = hi - lo := by simp; omega
    have hget : ∀ (i : Nat) (row : List V), ((rows.drop lo).take (hi - lo))[i]? = some row → rows[lo + i]? = some row := by
      intro i row h
      rw [List.getElem?_take] at h
      split at h
      · rw [List.getElem?_drop] at h; exact h
      · cases h
    have : (if cap0 = lo then some ad else (some ad).map (·.add (lo * es'))) = some (if cap0 = lo then ad else ad.add (lo * es')) := by split <;> rfl
    rw [this]
    simp only [V.cut]
    have hne : ∀ {i : Nat} {row : List V}, ((rows.drop lo).take (hi - lo))[i]? = some row → rows ≠ [] ∧ cap0 ≠ lo := by
      intro i row h
      have := lt_of_get h
      rw [hlen'] at this
      refine ⟨by rintro rfl; simp at h2; omega, by omega⟩
    have hkey : ∀ (i : Nat) (row : List V), ((rows.drop lo).take (hi - lo))[i]? = some row → (if cap0 = lo then ad else ad.add (lo * es')) = ⟨ad.block, ad.off + lo * es', none⟩ := by
      intro i row h
      obtain ⟨n1, n2⟩ := hne h
      rw [if_neg n2]
      obtain ⟨_, _, q3⟩ := hb n1
      rw [show ad = ⟨ad.block, ad.off, none⟩ from by rw [← q3], addr_add]
    have := RV.view (c := cx w.heap st.hp β F) (es := es') (rows := (rows.drop lo).take (hi - lo)) (ad := if cap0 = lo then ad else ad.add (lo * es')) (cap := cap0 - lo) (fun i j => g (lo + i) j)
      (fun hn => ?_) (by rw [hlen']; omega) (fun i row h => hlen _ _ (hget i row h)) (fun i row h j x hj => ?_) (fun i row h j x hj => hr _ _ (hget i row h) j x hj)
    · rw [hlen'] at this; exact this
    · obtain ⟨i, row, h⟩ : ∃ i row, ((rows.drop lo).take (hi - lo))[i]? = some row := by
        cases hh : (rows.drop lo).take (hi - lo) with
        | nil => exact absurd hh hn
        | cons r l => exact ⟨0, r, rfl⟩
      rw [hkey i row h]
      obtain ⟨q1, q2, _⟩ := hb (hne h).1
      exact ⟨q1, q2, rfl⟩
    · rw [hkey i row h]
      show look _ ad.block (ad.off + lo * es' + i * es' + j) = _ ∧ _
      rw [show ad.off + lo * es' + i * es' + j = ad.off + (lo + i) * es' + j from by rw [Nat.add_mul]; omega]
      exact hg _ _ (hget i row h) j x hj
  | a =>
    simp only [V.slLen] at h2 hl0
    have : lo = 0 ∧ hi = 0 := by omega
    obtain ⟨rfl, rfl⟩ := this
    have hnil : base0 = none ∧ cap0 = 0 := by
      obtain ⟨b, l, c, e, _, _, hn, _⟩ := (RV.a (c := cx w.heap st.hp β F) (v := .slice base0 len0 cap0)).sl hk ho
      injection e with e1 e2 e3
      subst e1 e2 e3
      refine hn ?_
      unfold okSl at ho
      split at ho <;> first | exact ho.elim | (rename_i h; cases h; done) | skip
      rename_i h; injection h with h; injection h with h1 h2 h3; subst h1 h2 h3; rfl
    obtain ⟨rfl, rfl⟩ := hnil
    have : len0 = 0 := by omega
    subst this
    exact .a
  | any => exact ho.elim
  | ptr => exact ho.elim
  | mp => exact ho.elim

end
end Go.Abs
