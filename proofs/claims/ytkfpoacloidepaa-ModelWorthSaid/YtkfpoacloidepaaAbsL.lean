import Derived.Test.YtkfpoacloidepaaAbsK
import Derived.Laws.Append
set_option linter.all false
/- Slices that are made, and laid on. -/
namespace Go.Abs
set_option linter.unusedVariables false

theorem chunk_get {es : Nat} : ∀ (n : Nat) (l : List V) (i : Nat) (row : List V), (chunk es n l)[i]? = some row → row = (l.drop (i * es)).take es ∧ i < n := by
  intro n
  induction n with
  | zero => intro l i row h; simp [chunk] at h
  | succ n ih =>
    intro l i row h
    cases i with
    | zero => simp [chunk] at h; subst h; simp
    | succ i =>
      simp only [chunk, List.getElem?_cons_succ] at h
      obtain ⟨h1, h2⟩ := ih _ _ _ h
      refine ⟨?_, by omega⟩
      rw [h1, List.drop_drop]
      congr 2
      rw [Nat.add_mul]; omega

theorem chunk_length {es : Nat} : ∀ (n : Nat) (l : List V), (chunk es n l).length = n := by
  intro n
  induction n with
  | zero => intro l; rfl
  | succ n ih => intro l; simp [chunk, ih]

theorem flatten_replicate_get {α : Type} (z : List α) : ∀ (n k : Nat), k < n * z.length → (List.flatten (List.replicate n z))[k]? = z[k % z.length]? := by
  intro n
  induction n with
  | zero => intro k h; simp at h
  | succ n ih =>
    intro k h
    rw [List.replicate_succ, List.flatten_cons, List.getElem?_append]
    by_cases hk : k < z.length
    · rw [if_pos hk, Nat.mod_eq_of_lt hk]
    · rw [if_neg hk, ih _ (by rw [Nat.add_mul] at h; omega)]
      congr 1
      rw [← Nat.mod_eq_sub_mod (by omega)]

theorem fillV_length : ∀ (ps : List (Nat × Nat × V)) (cs : List V), (∀ p ∈ ps, p.1 + p.2.2.cells.length ≤ cs.length) → (fillV cs ps).length = cs.length := by
  intro ps
  induction ps with
  | nil => intro cs _; rfl
  | cons p ps ih =>
    intro cs h
    have h0 := h p (by simp)
    have hl : (cs.take p.1 ++ p.2.2.cells ++ cs.drop (p.1 + p.2.2.cells.length)).length = cs.length := by simp; omega
    simp only [fillV]
    rw [ih _ fun q hq => by rw [hl]; exact h q (by simp [hq]), hl]

section
variable {P : Program} {w : World} {β : Nat → Hd} {F : Nat → Prop} {N : Nat} {st : St} {a : Act}

theorem sound_bsl {o : Oper} {t e : TypeId} {len : Nat} {parts : Array (Nat × Operand)} {i : TypeInfo} {z : Value} {r : Nat} (hR : Rel w β F N st a) (ho : o.op = .buildSlice t len parts)
    (hu : P.underlying t = some (.slice e)) (hi : P.info? e = some i) (hz : i.zero = some z) (hsz : z.cells.size = i.size) (hpos : 0 < i.size) (hsmall : len * i.size ≤ 16777216) (hone : z.cells.toList.all (·.oneCell'))
    (hd : ∀ t, o.dst = some t → t < N) {k : St → Prop} (h : (I.bsl o.dst r i.size len (z.cells.toList.map .a) parts.toList).vc P k st) (Q : Exit → Act → World → Prop) :
    o.wp P a w (Then P F N w st β k) Q := by
  have hk := hR.hok
  obtain ⟨p1, p2, p3, p4⟩ := h
  have hone' : ∀ (i : Nat) (u : Value), z.cells[i]? = some u → u.oneCell' = true := fun i u hu => List.all_eq_true.1 hone u (by simpa using Array.mem_of_getElem? hu)
  have hzp : 0 < z.cells.size := by rw [hsz]; exact hpos
  have base : ∀ (k : Nat) (u : Value), ((Array.range (len * i.size)).map (z.cells[· % z.cells.size]!))[k]? = some u → k < len * i.size ∧ z.cells[k % z.cells.size]? = some u := by
    intro k u hk'
    simp only [Array.getElem?_map, Option.map_eq_some_iff] at hk'
    obtain ⟨q, hq, rfl⟩ := hk'
    obtain ⟨hlt, hq⟩ := Array.getElem?_eq_some_iff.1 hq
    simp at hlt hq
    subst hq
    refine ⟨hlt, ?_⟩
    have := Nat.mod_lt k hzp
    rw [getElem!_pos z.cells _ this]
    exact Array.getElem?_eq_getElem this
  have hfl : (List.flatten (List.replicate len (z.cells.toList.map V.a))).length = len * i.size := by simp [hsz]
  obtain ⟨vs, h1, h2, h3, h4⟩ := run_fill (c := cx w.heap st.hp β F) (fun k => some (k * i.size, i.size)) (parts.toList.map fun p => (p.1, a.eval p.2)) (parts.toList.map fun p => (p.1 * i.size, i.size, st.ev p.2))
    ((Array.range (len * i.size)).map (z.cells[· % z.cells.size]!)) (List.flatten (List.replicate len (z.cells.toList.map V.a)))
    (by rw [hfl]; simp) (fun k u y hu hy => by
      obtain ⟨b1, b2⟩ := base k u hu
      rw [flatten_replicate_get _ _ _ (by simpa [hsz] using b1)] at hy
      simp only [List.length_map, Array.length_toList, List.getElem?_map, Array.getElem?_toList, b2, Option.map_some, Option.some.injEq] at hy
      subst hy
      exact .a) (by simp) (fun j q p hq hp' => by
      simp only [List.getElem?_map, Option.map_eq_some_iff] at hq hp'
      obtain ⟨q0, hq0, rfl⟩ := hq
      obtain ⟨p0, hp0, rfl⟩ := hp'
      rw [hq0] at hp0; injection hp0 with hp0; subst hp0
      obtain ⟨g1, g2⟩ := p3 q0 (List.mem_of_getElem? hq0)
      obtain ⟨s1, s2, s3, s4⟩ := (hR.ev q0.2).sized hk g1
      refine ⟨rfl, s1, s2, ?_, s3, s4⟩
      rw [hfl]
      have : (q0.1 + 1) * i.size ≤ len * i.size := Nat.mul_le_mul_right _ g2
      rw [Nat.add_mul] at this
      simp only; omega) (fun k u hu => hone' _ _ (base k u hu).2)
  generalize hxs : fillV (List.flatten (List.replicate len (z.cells.toList.map V.a))) (parts.toList.map fun (p : Nat × Operand) => (p.1 * i.size, i.size, st.ev p.2)) = xs at *
  have hlen : xs.length = len * i.size := by
    rw [← hxs, fillV_length _ _ fun p hp => ?_, hfl]
    obtain ⟨q0, hq0, rfl⟩ := List.mem_map.1 hp
    obtain ⟨g1, g2⟩ := p3 q0 hq0
    obtain ⟨s1, s2, s3, s4⟩ := (hR.ev q0.2).sized hk g1
    rw [hfl]
    have : (q0.1 + 1) * i.size ≤ len * i.size := Nat.mul_le_mul_right _ g2
    rw [Nat.add_mul] at this
    simp only; omega
  have adv := new_mem (es := i.size) (refs := V.idsL xs) (rows := chunk i.size len xs) (cs := vs) (E := e) hk p1 (by rw [chunk_length, h2, hlen]) (fun k row hk' => by
      obtain ⟨e1, e2⟩ := chunk_get _ _ _ _ hk'
      rw [e1]; simp [hlen]
      have : (k + 1) * i.size ≤ len * i.size := Nat.mul_le_mul_right _ e2
      rw [Nat.add_mul] at this
      omega) (fun k row j y hk' hj => by
      obtain ⟨e1, e2⟩ := chunk_get _ _ _ _ hk'
      rw [e1, List.getElem?_take] at hj
      split at hj
      · rw [List.getElem?_drop] at hj
        have hlt : k * i.size + j < vs.size := by rw [h2]; exact lt_of_get hj
        have hu := Array.getElem?_eq_getElem hlt
        exact ⟨_, hu, h4 _ _ hu, (h3 _ _ _ hu hj).onlyOf _ fun q hq => idsL_mem hj hq⟩
      · cases hj)
  refine upon_value (s := Instr.buildSlice t len (parts.map fun (i, x) => (i, a.eval x))) (by obtain ⟨dst, op, ty, pos, af, gu⟩ := o; simp only at ho; subst ho; rfl) (v := .slice (some ⟨w.heap.size, 0, none⟩) len len) (w' := { w with heap := w.heap.push (.cells vs e) }) ?_
    ⟨_, _, ⟨by rw [put_hp]; exact adv, (hR.adv adv).put hd ?_, by rw [put_hp]; simp⟩, p4⟩
  · have hp1 : (parts.map fun x => (x.1, a.eval x.2)).toList = parts.toList.map fun p => (p.1, a.eval p.2) := by simp
    simp only [Instr.buildSlice, Sem.run_bind, run_underlying' hu, run_sizeOf' hi, Result.andThen_ok, run_zeroValue' hi hz]
    rw [if_neg (by omega)]
    by_cases h0 : len * i.size = 0
    · rw [if_pos h0]
      have e0 : (Array.range (len * i.size)).map (((#[] : Array Value))[· % ((#[] : Array Value)).size]!) = (Array.range (len * i.size)).map (z.cells[· % z.cells.size]!) := by
        simp [h0]
      simp only [Sem.run_bind, Result.andThen_ok, Sem.run_pure, hp1, e0, h1, newRow, run_newObj]
    · rw [if_neg h0]
      simp only [Sem.run_bind, run_zeroValue' hi hz, Result.andThen_ok, Sem.run_pure, hp1, h1, newRow, run_newObj]
  · have := fresh_own (es := i.size) (refs := V.idsL xs) (b := w.heap.size) p1 (hp := w.heap.push (.cells vs e)) (F := F) (β := β) (chunk_length (es := i.size) len xs)
    rw [chunk_length] 
    exact this

end
end Go.Abs
