import Derived.Test.YtbmfhpbkfigpjaaGreatB3
import Derived.Test.YtbmfhpbkfigpjaaGreatProg
import Derived.KernelRfl
import Derived.Laws.Strings
set_option linter.all false
/- Contracts: what a call leaves that its caller has no use for. -/
namespace Go.Abs
set_option linter.unusedVariables false

theorem hok_trim {n : Nat} {F : Nat → Prop} {w : World} {β : Nat → Hd} {H : Heap} (hk : HOK w.heap H β F) :
    HOK w.heap ((H.take n).map (limO n)) β F ∧ (∀ id b, ownsB ((H.take n).map (limO n)) β id b → ownsB H β id b) ∧ (∀ id g, hdOf ((H.take n).map (limO n)) β id = some g → hdOf H β id = some g) ∧ (∀ id, id < n → liveIn H id → liveIn ((H.take n).map (limO n)) id) ∧
      ∀ refs : List Nat, (∀ i ∈ refs, i < n) → ((cx w.heap H β F).only refs).le ((cx w.heap ((H.take n).map (limO n)) β F).only refs) := by
  have hget : ∀ {id : Nat} {o : O}, ((H.take n).map (limO n))[id]? = some o → id < n ∧ ∃ o', H[id]? = some o' ∧ o = limO n o' := by
    intro id o h
    simp only [List.getElem?_map, Option.map_eq_some_iff] at h
    obtain ⟨o', h, rfl⟩ := h
    rw [List.getElem?_take] at h
    split at h
    · next hlt => exact ⟨hlt, o', h, rfl⟩
    · cases h
  have hown : ∀ id b, ownsB ((H.take n).map (limO n)) β id b → ownsB H β id b := by
    intro id b h
    unfold ownsB at h
    cases h1 : ((H.take n).map (limO n))[id]? with
    | none => rw [h1] at h; exact h.elim
    | some o =>
      obtain ⟨hlt, o', h2, rfl⟩ := hget h1
      rw [h1] at h
      unfold ownsB
      rw [h2]
      unfold limO at h
      split at h
      · next e =>
        split at e
        · injection e with e; subst e; exact h
        · cases e
      · next e =>
        split at e
        · injection e with e; subst e; exact h
        · cases e
      · next e =>
        split at e
        · injection e with e; subst e; exact h
        · cases e
      · next e =>
        split at e
        · injection e with e; subst e; exact h
        · cases e
      · exact h.elim
  have hhd : ∀ id g, hdOf ((H.take n).map (limO n)) β id = some g → hdOf H β id = some g := by
    intro id g h
    unfold hdOf at h
    cases h1 : ((H.take n).map (limO n))[id]? with
    | none => rw [h1] at h; cases h
    | some o =>
      obtain ⟨hlt, o', h2, rfl⟩ := hget h1
      rw [h1] at h
      unfold hdOf
      rw [h2]
      unfold limO at h
      split at h
      · next e =>
        split at e
        · injection e with e; subst e; exact h
        · cases e
      · next e =>
        split at e
        · injection e with e; subst e; exact h
        · cases e
      · next e =>
        split at e
        · injection e with e; subst e; exact h
        · cases e
      · next e =>
        split at e
        · injection e with e; subst e; exact h
        · cases e
      · cases h
  have hlive : ∀ id, id < n → liveIn H id → liveIn ((H.take n).map (limO n)) id := by
    rintro id hlt ⟨o, h1, h2⟩
    refine ⟨limO n o, ?_, ?_⟩
    · simp [List.getElem?_take, hlt, h1]
    · unfold limO; split
      · exact h2
      · intro e; cases e
  have hle : ∀ refs : List Nat, (∀ i ∈ refs, i < n) → ((cx w.heap H β F).only refs).le ((cx w.heap ((H.take n).map (limO n)) β F).only refs) := by
    intro refs hrefs
    refine ⟨Nat.le_refl _, fun b hb hno => ⟨rfl, fun e => hno ?_⟩, fun id hl => ⟨hl.1, hlive id (hrefs id hl.1) hl.2⟩, fun id g' hl e => .inl (hhd id g' e)⟩
    rcases e with ⟨id, e⟩ | e
    · exact .inl ⟨id, hown id b e⟩
    · exact .inr e
  refine ⟨⟨fun id o h => ?_, fun id id' b h1 h2 => hk.one id id' b (hown _ _ h1) (hown _ _ h2), fun b hb => ⟨(hk.far b hb).1, fun ⟨id, e⟩ => (hk.far b hb).2 ⟨id, hown _ _ e⟩⟩⟩, hown, hhd, hlive, hle⟩
  · obtain ⟨hlt, o', h2, rfl⟩ := hget h
    have hro := hk.ro id o' h2
    unfold limO
    split
    · next hrefs =>
      have hrefs' : ∀ i ∈ o'.refs, i < n := fun i hi => by simpa using List.all_eq_true.1 hrefs i hi
      have hownb : ∀ b, (cx w.heap ((H.take n).map (limO n)) β F).own b → (cx w.heap H β F).own b := by
        rintro b (⟨id, e⟩ | e)
        · exact .inl ⟨id, hown id b e⟩
        · exact .inr e
      cases o' with
      | res => trivial
      | dead => trivial
      | sit s pos => exact hro
      | tree refs rows =>
        rcases hro with hro | ⟨q1, q2, q3, q4, q5⟩
        · exact .inl hro
        · exact .inr ⟨q1, q2, q3, q4.mono (hle refs hrefs') fun _ _ => rfl, q5⟩
      | mem fz refs rows =>
        rcases hro with hro | ⟨q1, q2, q3, q4, q5, cs, E, fr, q6, q7, q8, q9⟩
        · exact .inl hro
        · refine .inr ⟨q1, q2, q3, q4, fun e k => q5 e (hownb _ k), cs, E, fr, q6, q7, q8, fun i row hi hlo j x hj => ?_⟩
          obtain ⟨v, e1, e2, e3⟩ := q9 i row hi hlo j x hj
          exact ⟨v, e1, e2, e3.mono (hle refs hrefs')⟩
      | map fz refs es =>
        obtain ⟨q1, ents, clock, q2, q3, q4, q5, q6⟩ := hro
        exact ⟨fun e k => q1 e (hownb _ k), ents, clock, q2, q3, q4, q5, fun i e x he hx => ⟨(q6 i e x he hx).1.mono (hle [] (by simp)), (q6 i e x he hx).2.mono (hle refs hrefs')⟩⟩
    · trivial

theorem DC.trim {P : Program} {f : FuncId} {xs : List V} {H : Heap} {Q Q' : V → Heap → Prop} (h : DC P f xs H Q)
    (hq : ∀ x H', Q x H' → ∃ n, H.length ≤ n ∧ (∀ i ∈ x.ids, i < n) ∧ Q' x ((H'.take n).map (limO n))) : DC P f xs H Q' := fun w β F vs hk hr =>
  (h w β F vs hk hr).mono fun e w' ⟨r, x, H', β2, h1, h2, h3, h4⟩ => by
    obtain ⟨n, hn, hx, hQ⟩ := hq x H' h4
    obtain ⟨t1, hown, hhd, hlive, hle⟩ := hok_trim (n := n) h2.hok
    refine ⟨r, x, _, β2, h1, ⟨t1, ⟨h2.le.size, fun b hb hno => ⟨(h2.le.same b hb hno).1, fun e => (h2.le.same b hb hno).2 (e.imp (fun ⟨id, e⟩ => ⟨id, hown _ _ e⟩) fun e => e)⟩, fun id hl => ?_, fun id g' hl e => h2.le.hd id g' hl (hhd _ _ e)⟩, h2.ext⟩, ?_, hQ⟩
    · have hlt : id < H.length := by obtain ⟨o, e, _⟩ := hl; exact lt_of_get e
      exact hlive id (Nat.lt_of_lt_of_le hlt hn) (h2.le.live id hl)
    · exact ((h3.onlyOf _ fun i hi => hi).mono (hle _ hx)).up
end Go.Abs

namespace Go.Abs.G
open Go.Proofs
set_option linter.unusedVariables false
set_option linter.unusedSimpArgs false
attribute [local simp] I.vc sub merge place

def U (s : List Dom) (T : List (List Ce)) : Heap := [.mem false [1, 2] [[.own 1 4 0 s.length s.length, .own 2 1 0 T.length T.length]], .mem false [] (s.map Dom.row), .tree [] T]
structure StOk (s : List Dom) (T : List (List Ce)) : Prop where
  n : s.length ≤ 64
  k : T.length ≤ 1000000
  d : ∀ d ∈ s, d.ok
  t : ∀ f, Ce.renR f T = T
def isB (s : List Dom) (x : Int) : Bool := decide (0 ≤ x) && decide (x < s.length)

theorem isS_spec {s : List Dom} {T : List (List Ce)} (hs : StOk s T) (x : Int) : DC Tryz.prog dom_Store_is.id [.ptr 0 1 0 0, V.i x] (U s T) (fun r H => r = .bool (isB s x) ∧ H = U s T) := by
  refine DC.of dom_Store_is.ok (by simp) ?_
  by_cases h : 0 ≤ x
  · simp [dom_Store_is.ir, dom_Store_is.rs, U, isB, h]
  · simp [dom_Store_is.ir, dom_Store_is.rs, U, isB, h]
theorem vars_spec {s : List Dom} {T : List (List Ce)} (hs : StOk s T) : DC Tryz.prog dom_Store_Vars.id [.ptr 0 1 0 0] (U s T) (fun r H => r = V.i s.length ∧ H = U s T) := by
  refine DC.of dom_Store_Vars.ok (by simp) ?_
  simp [dom_Store_Vars.ir, dom_Store_Vars.rs, U]
def Dom.size (d : Dom) : Nat := pop d.a + pop d.b
theorem pop_le (n : Nat) : pop n ≤ 32 := by
  have := List.countP_le_length (p := n.testBit) (l := List.range 32)
  simpa [pop] using this
theorem size_spec {rows : List (List V)} {d : Dom} {x : Nat} (hx : rows[x]? = some d.row) (hd : d.ok) :
    DC Tryz.prog dom_set_size.id [.ptr 0 rows.length x 2] [.mem false [] rows] (fun r H => r = V.i d.size ∧ H = [.mem false [] rows]) := by
  obtain ⟨hlt, he⟩ := List.getElem?_eq_some_iff.1 hx
  have p1 := pop_le d.a
  have p2 := pop_le d.b
  refine DC.of dom_set_size.ok (by simp) ?_
  simp [dom_set_size.ir, dom_set_size.rs]
  refine WI.mono (Q := fun e s => e = .exit 0 ∧ gt s.sl 3 = V.i d.size ∧ s.hp = [.mem false [] rows])
    (WI.loop 1 (by simp) (fun s => ∃ i : Nat, i ≤ 2 ∧ gt s.sl 6 = .ptr 0 rows.length x 2 ∧ gt s.sl 7 = V.i i ∧ gt s.sl 3 = V.i (if i = 0 then 0 else if i = 1 then pop d.a else d.size : Nat) ∧ s.hp = [.mem false [] rows]) (fun s => (2 - (gt s.sl 7).num).toNat) ?_ ?_) ?_
  · exact ⟨0, by simp⟩
  · rintro ⟨sl, hp, bs⟩ ⟨i, hi, h6, h7, h3, rfl⟩
    have hi' : i = 0 ∨ i = 1 ∨ i = 2 := by omega
    rcases hi' with rfl | rfl | rfl
    · simp [dom_set_size.b0, h6, h7, h3, hx, he, hlt, Dom.row]
      refine (ones_spec d.a hd.a).use ?_
      simp [h6, h7, h3]
      exact ⟨⟨1, by omega, by decide, by rw [wrap64 (by omega) (by omega)]; rfl⟩, by decide⟩
    · simp [dom_set_size.b0, h6, h7, h3, hx, he, hlt, Dom.row]
      refine (ones_spec d.b hd.b).use ?_
      simp [h6, h7, h3]
      exact ⟨⟨2, by omega, by decide, by rw [wrap64 (by omega) (by omega)]; rfl⟩, by decide⟩
    · simp [dom_set_size.b0, h6, h7, h3]
  · rintro e ⟨sl, hp, bs⟩ ⟨rfl, h3, rfl⟩
    simp [h3]


section
variable {s s' : List Dom} {T T' : List (List Ce)} {E : Heap}
@[simp] theorem U_len : (U s T).length = 3 := rfl
@[simp] theorem U_0 : (U s T)[0]? = some (.mem false [1, 2] [[.own 1 4 0 s.length s.length, .own 2 1 0 T.length T.length]]) := rfl
@[simp] theorem U_1 : (U s T)[1]? = some (.mem false [] (s.map Dom.row)) := rfl
@[simp] theorem U_2 : (U s T)[2]? = some (.tree [] T) := rfl
@[simp] theorem UE_0 : (U s T ++ E)[0]? = some (.mem false [1, 2] [[.own 1 4 0 s.length s.length, .own 2 1 0 T.length T.length]]) := rfl
@[simp] theorem UE_1 : (U s T ++ E)[1]? = some (.mem false [] (s.map Dom.row)) := rfl
@[simp] theorem UE_2 : (U s T ++ E)[2]? = some (.tree [] T) := rfl
@[simp] theorem U_clos : clos (U s T) 8 [0] = [0, 1, 2] := by simp [clos, addAll, O.refs, U]
@[simp] theorem UE_clos : clos (U s T ++ E) 8 [0] = [0, 1, 2] := by simp [clos, addAll, O.refs, U]
@[simp] theorem row_ren (f : Nat → Nat) (d : Dom) : V.renL f d.row = d.row := rfl
theorem U_ren (f : Nat → Nat) (h1 : f 1 = 1) (h2 : f 2 = 2) (ht : ∀ f, Ce.renR f T = T) : (U s T).map (O.ren f) = U s T := by
  simp [U, O.ren, V.renL, V.ren, h1, h2, ht, Function.comp_def]
theorem UE_sub (ht : ∀ f, Ce.renR f T = T) : sub (U s T ++ E) [0, 1, 2] = U s T := U_ren (idx [0, 1, 2]) rfl rfl ht
theorem U_sub (ht : ∀ f, Ce.renR f T = T) : sub (U s T) [0, 1, 2] = U s T := U_ren (idx [0, 1, 2]) rfl rfl ht
theorem UE_merge (ht : ∀ f, Ce.renR f T' = T') : merge (U s T ++ E) [0, 1, 2] (U s' T') = U s' T' ++ E := by
  have h := U_ren (s := s') (back [0, 1, 2] (U s T ++ E).length) rfl rfl ht
  have h1 : (U s' T').take 3 = U s' T' := rfl
  have h2 : (U s' T').drop 3 = [] := rfl
  simp only [merge, List.length_cons, List.length_nil, Nat.zero_add, Nat.reduceAdd, h1, h2, h, List.map_nil, List.append_nil]
  rfl
theorem U_merge (ht : ∀ f, Ce.renR f T' = T') : merge (U s T) [0, 1, 2] (U s' T') = U s' T' := by
  have h := U_ren (s := s') (back [0, 1, 2] (U s T).length) rfl rfl ht
  have h1 : (U s' T').take 3 = U s' T' := rfl
  have h2 : (U s' T').drop 3 = [] := rfl
  simp only [merge, List.length_cons, List.length_nil, Nat.zero_add, Nat.reduceAdd, h1, h2, h, List.map_nil, List.append_nil]
  rfl
theorem U_sel : OkSel (U s T) [0, 1, 2] := by
  simp [OkSel, O.refs, U]
theorem UE_sel : OkSel (U s T ++ E) [0, 1, 2] := by
  simp [OkSel, O.refs, U]
end
end Go.Abs.G

namespace Go.Abs.G
open Go.Proofs
set_option linter.unusedVariables false
set_option linter.unusedSimpArgs false
section
variable {s s' : List Dom} {T T' : List (List Ce)} {E : Heap}
@[simp] theorem U_clos1 : clos (U s T) 8 [1] = [1] := by simp [clos, addAll, O.refs, U]
theorem U_sel1 : OkSel (U s T) [1] := by simp [OkSel, O.refs, U]
theorem U_sub1 : sub (U s T) [1] = [.mem false [] (s.map Dom.row)] := by simp [sub, U, O.ren, Function.comp_def]
theorem U_merge1 : merge (U s T) [1] [.mem false [] (s.map Dom.row)] = U s T := by simp [merge, U, O.ren, place, Function.comp_def]
end

theorem StOk.row {s : List Dom} {T : List (List Ce)} (hs : StOk s T) {x : Int} (h : isB s x = true) : ∃ i d, x = ((i : Nat) : Int) ∧ i < s.length ∧ s[i]? = some d ∧ d.ok ∧ (s.map Dom.row)[i]? = some d.row := by
  simp only [isB, Bool.and_eq_true, decide_eq_true_eq] at h
  have hlt : x.toNat < s.length := by omega
  exact ⟨x.toNat, s[x.toNat], by omega, hlt, by simp [hlt], hs.d _ (List.getElem_mem hlt), by simp [hlt]⟩

attribute [local simp] I.vc

theorem sizeS_spec {s : List Dom} {T : List (List Ce)} (hs : StOk s T) (x : Int) : DC Tryz.prog dom_Store_Size.id [.ptr 0 1 0 0, V.i x] (U s T) (fun r H => r = V.i (if isB s x then (((s[x.toNat]?).map Dom.size).getD 0 : Nat) else 0 : Int) ∧ H = U s T) := by
  refine DC.of dom_Store_Size.ok (by simp) ?_
  unfold dom_Store_Size.ir
  refine vc_cut (fun st => gt st.sl 0 = .ptr 0 1 0 0 ∧ gt st.sl 1 = V.i x ∧ st.hp = U s T) (by simp) ?_
  rintro ⟨sl, hp, bs⟩ ⟨h0, h1, rfl⟩
  refine vc_cut (fun st => isB s x = true ∧ gt st.sl 0 = .ptr 0 1 0 0 ∧ gt st.sl 1 = V.i x ∧ st.hp = U s T) ?_ ?_
  · simp [h0, h1, V.idsL, V.ids, U_sub hs.t, U_sel]
    refine DC.mono (isS_spec hs x) ?_
    rintro r H ⟨rfl, rfl⟩
    cases h : isB s x <;> simp [U_merge hs.t, dom_Store_Size.rs]
  clear h0 h1
  rintro ⟨sl, hp, bs⟩ ⟨h, h0, h1, rfl⟩
  obtain ⟨i, d, rfl, hi, hd, hok, hr⟩ := hs.row h
  have := size_spec (rows := s.map Dom.row) hr hok
  rw [List.length_map] at this
  have hds : s[i] = d := by rw [List.getElem?_eq_getElem hi] at hd; injection hd
  simp [h0, h1, h, hi, V.idsL, V.ids, U_sel1, U_sub1]
  refine DC.mono this ?_
  rintro r H ⟨rfl, rfl⟩
  simp [U_merge1, dom_Store_Size.rs, hds]
end Go.Abs.G

namespace Go.Abs.G
open Go.Proofs
set_option linter.unusedVariables false
set_option linter.unusedSimpArgs false
attribute [local simp] I.vc
section
variable (d : Dom)
@[simp] theorem row_len : d.row.length = 4 := rfl
@[simp] theorem row_head : d.row.head? = some (V.i d.from') := rfl
@[simp] theorem row_0 : d.row[0]? = some (V.i d.from') := rfl
@[simp] theorem row_1 : d.row[1]? = some (V.i d.width) := rfl
@[simp] theorem row_2 : d.row[2]? = some (V.w d.a) := rfl
@[simp] theorem row_3 : d.row[3]? = some (V.w d.b) := rfl
@[simp] theorem row_0' (h) : d.row[0]'h = V.i d.from' := rfl
@[simp] theorem row_1' (h) : d.row[1]'h = V.i d.width := rfl
@[simp] theorem row_2' (h) : d.row[2]'h = V.w d.a := rfl
@[simp] theorem row_3' (h) : d.row[3]'h = V.w d.b := rfl
end
section
variable {s s' : List Dom} {T T' : List (List Ce)} {E : Heap}
@[simp] theorem UE_3 (o : O) : (U s T ++ (o :: E))[3]? = some o := rfl
@[simp] theorem UE_3' (o : O) (h) : (U s T ++ (o :: E))[3]'h = o := rfl
@[simp] theorem UE_0' (h) : (U s T ++ E)[0]'h = .mem false [1, 2] [[.own 1 4 0 s.length s.length, .own 2 1 0 T.length T.length]] := rfl
@[simp] theorem UE_1' (h) : (U s T ++ E)[1]'h = .mem false [] (s.map Dom.row) := rfl
@[simp] theorem UE_2' (h) : (U s T ++ E)[2]'h = .tree [] T := rfl
@[simp] theorem UE_4 (o o' : O) : (U s T ++ (o :: o' :: E))[4]? = some o' := rfl
@[simp] theorem UE_4' (o o' : O) (h) : (U s T ++ (o :: o' :: E))[4]'h = o' := rfl
@[simp] theorem UE_set3 (o o' : O) : (U s T ++ (o :: E)).set 3 o' = U s T ++ (o' :: E) := rfl
@[simp] theorem UE_set4 (o o1 o' : O) : (U s T ++ (o :: o1 :: E)).set 4 o' = U s T ++ (o :: o' :: E) := rfl
theorem trimU {P : Program} {f : FuncId} {xs : List V} {Q : V → Prop} {S' : V → List Dom} {T' : V → List (List Ce)} (h : DC P f xs (U s T) fun r H' => (∀ i ∈ r.ids, i < 3) ∧ Q r ∧ ∃ E, H' = U (S' r) (T' r) ++ E) :
    DC P f xs (U s T) fun r H' => Q r ∧ H' = U (S' r) (T' r) :=
  h.trim fun x H' ⟨h1, h2, E, h3⟩ => ⟨3, by simp, h1, h2, by rw [h3]; rfl⟩
theorem UE1_clos (rows : List (List V)) (E : Heap) : clos (U s T ++ (.mem false [] rows :: E)) 8 [3] = [3] := by simp [clos, addAll, O.refs, U]
theorem UE1_sel (rows : List (List V)) (E : Heap) : OkSel (U s T ++ (.mem false [] rows :: E)) [3] := by simp [OkSel, O.refs, U]
theorem UE1_sub (d : Dom) (E : Heap) : sub (U s T ++ (.mem false [] [d.row] :: E)) [3] = [.mem false [] [d.row]] := by simp [sub, U, O.ren]
theorem UE1_merge (d d' : Dom) (E : Heap) : merge (U s T ++ (.mem false [] [d.row] :: E)) [3] [.mem false [] [d'.row]] = U s T ++ (.mem false [] [d'.row] :: E) := by simp [merge, U, O.ren, place]
end

def hasB (s : List Dom) (x v : Int) : Bool := match s[x.toNat]? with
  | some d => decide (0 ≤ x) && (decide (d.from' ≤ v) && decide (v < d.from' + d.width)) && d.has (v - d.from').toNat
  | none => false

theorem hasS_spec {s : List Dom} {T : List (List Ce)} (hs : StOk s T) (x v : Int) (hv : I64 v) : DC Tryz.prog dom_Store_Has.id [.ptr 0 1 0 0, V.i x, V.i v] (U s T) (fun r H => r = .bool (hasB s x v) ∧ H = U s T) := by
  refine trimU (S' := fun _ => s) (T' := fun _ => T) (Q := fun r => r = .bool (hasB s x v)) ?_
  refine DC.of dom_Store_Has.ok (by simp) ?_
  unfold dom_Store_Has.ir
  refine vc_cut (fun st => gt st.sl 0 = .ptr 0 1 0 0 ∧ gt st.sl 1 = V.i x ∧ gt st.sl 2 = V.i v ∧ st.hp = U s T) (by simp) ?_
  rintro ⟨sl, hp, bs⟩ ⟨h0, h1, h2, rfl⟩
  refine vc_cut (fun st => isB s x = true ∧ gt st.sl 0 = .ptr 0 1 0 0 ∧ gt st.sl 1 = V.i x ∧ gt st.sl 2 = V.i v ∧ st.hp = U s T) ?_ ?_
  · simp [h0, h1, h2, V.idsL, V.ids, U_sub hs.t, U_sel]
    refine DC.mono (isS_spec hs x) ?_
    rintro r H ⟨rfl, rfl⟩
    cases h : isB s x
    · have : hasB s x v = false := by
        unfold hasB
        cases hx : s[x.toNat]? with
        | none => rfl
        | some d =>
          have hlt := lt_of_get hx
          simp only [isB, Bool.and_eq_false_iff, decide_eq_false_iff_not] at h
          have h0 : ¬ 0 ≤ x := by omega
          simp [h0]
      simp [U_merge hs.t, dom_Store_Has.rs, this, V.ids]
    · simp [U_merge hs.t, dom_Store_Has.rs]
  clear h0 h1 h2
  rintro ⟨sl, hp, bs⟩ ⟨h, h0, h1, h2, rfl⟩
  obtain ⟨i, d, rfl, hi, hd, hok, hr⟩ := hs.row h
  have hds : s[i] = d := by rw [List.getElem?_eq_getElem hi] at hd; injection hd
  refine vc_cut (fun st => gt st.sl 2 = V.i v ∧ gt st.sl 7 = .ptr 3 1 0 0 ∧ st.hp = U s T ++ [.mem false [] [d.row]]) ?_ ?_
  · simp [h0, h1, h2, h, hi, hds, Dom.row, U]
  clear h0 h1 h2
  rintro ⟨sl, hp, bs⟩ ⟨h2, h7, rfl⟩
  have f1 := hok.f
  have f2 := hok.w
  obtain ⟨v1, v2⟩ := hv
  have hw1 : IntKind.i64.wrap (d.from' + d.width) = d.from' + d.width := by rw [wrap64] <;> omega
  by_cases hin : d.from' ≤ v ∧ v < d.from' + d.width
  · obtain ⟨k, rfl⟩ : ∃ k : Nat, v = d.from' + k := ⟨(v - d.from').toNat, by omega⟩
    have hk : k < d.width := by omega
    have hw2 : IntKind.i64.wrap (d.from' + k - d.from') = (k : Int) := by rw [wrap64] <;> omega
    have e1 : d.from' + k - d.from' = k := by omega
    have e2 : d.from' ≤ d.from' + k := by omega
    have hB : hasB s i (d.from' + k) = d.has k := by
      unfold hasB
      simp [hd, e1, e2, hk]
    have hh := has_spec (rows := [d.row]) (d := d) (x := 0) (k := k) rfl hok (by omega)
    simp [h2, h7, UE1_clos, UE1_sel, UE1_sub, V.idsL, V.ids, hin, hw1, hw2, hB, hk] at hh ⊢
    refine DC.mono hh ?_
    rintro r H ⟨rfl, rfl⟩
    simp [UE1_merge, dom_Store_Has.rs, V.ids]

  · have hB : hasB s i v = false := by
      unfold hasB
      simp [hd]
      omega
    by_cases h3 : d.from' ≤ v
    · have h4 : ¬ v < d.from' + d.width := by omega
      simp [h2, h7, UE1_clos, UE1_sel, UE1_sub, V.idsL, V.ids, hw1, hB, h3, h4, dom_Store_Has.rs]
    · simp [h2, h7, UE1_clos, UE1_sel, UE1_sub, V.idsL, V.ids, hw1, hB, h3, dom_Store_Has.rs]
end Go.Abs.G

namespace Go.Abs.G
open Go.Proofs
set_option linter.unusedVariables false
set_option linter.unusedSimpArgs false
attribute [local simp] I.vc
section
variable {s s' : List Dom} {T T' : List (List Ce)} {E : Heap}
@[simp] theorem row_take (d : Dom) : List.take 4 d.row = d.row := rfl
@[simp] theorem row_idsL (d : Dom) : V.idsL d.row = [] := rfl
@[simp] theorem U_lim5 : (U s T).map (limO 5) = U s T := rfl
@[simp] theorem U_take5 (a b : O) : List.take 5 (U s T ++ [a, b]) = U s T ++ [a, b] := rfl
theorem UE2_clos (b rows : List (List V)) (E : Heap) : clos (U s T ++ (.mem false [] b :: .mem false [] rows :: E)) 8 [4] = [4] := by simp [clos, addAll, O.refs, U]
theorem UE2_sel (b rows : List (List V)) (E : Heap) : OkSel (U s T ++ (.mem false [] b :: .mem false [] rows :: E)) [4] := by simp [OkSel, O.refs, U]
theorem UE2_sub (b : List (List V)) (d : Dom) (E : Heap) : sub (U s T ++ (.mem false [] b :: .mem false [] [d.row] :: E)) [4] = [.mem false [] [d.row]] := by simp [sub, U, O.ren]
theorem UE2_merge (b : List (List V)) (d d' : Dom) (E : Heap) : merge (U s T ++ (.mem false [] b :: .mem false [] [d.row] :: E)) [4] [.mem false [] [d'.row]] = U s T ++ (.mem false [] b :: .mem false [] [d'.row] :: E) := by simp [merge, U, O.ren, place]
end

def cutTo (k v : Int) (d : Dom) : Nat → Dom
  | 0 => d
  | n + 1 => if goesB k v (d.from' + n) then (cutTo k v d n).drop n else cutTo k v d n
theorem drop_from (d : Dom) (k : Nat) : (d.drop k).from' = d.from' := by unfold Dom.drop; split <;> rfl
theorem drop_width (d : Dom) (k : Nat) : (d.drop k).width = d.width := by unfold Dom.drop; split <;> rfl
theorem drop_ok {d : Dom} (k : Nat) (h : d.ok) : (d.drop k).ok := by
  unfold Dom.drop; split
  · exact ⟨h.f, h.w, clr_lt _ _, h.b⟩
  · exact ⟨h.f, h.w, h.a, clr_lt _ _⟩
theorem cutTo_from (k v : Int) (d : Dom) : ∀ n, (cutTo k v d n).from' = d.from'
  | 0 => rfl
  | n + 1 => by unfold cutTo; split <;> simp [drop_from, cutTo_from k v d n]
theorem cutTo_width (k v : Int) (d : Dom) : ∀ n, (cutTo k v d n).width = d.width
  | 0 => rfl
  | n + 1 => by unfold cutTo; split <;> simp [drop_width, cutTo_width k v d n]
theorem cutTo_ok (k v : Int) {d : Dom} (h : d.ok) : ∀ n, (cutTo k v d n).ok
  | 0 => h
  | n + 1 => by unfold cutTo; split; exact drop_ok _ (cutTo_ok k v h n); exact cutTo_ok k v h n

def Dom.none (d : Dom) : Bool := decide (d.a = 0) && decide (d.b = 0)
def Dom.same (d e : Dom) : Bool := decide (d.a = e.a) && decide (d.b = e.b)
def cutS (s : List Dom) (k x v : Int) : List Dom × Bool × Bool :=
  if isB s x then match s[x.toNat]? with
    | some d => if (cutTo k v d d.width).none then (s, false, false) else (s.set x.toNat (cutTo k v d d.width), !(cutTo k v d d.width).same d, true)
    | none => (s, false, true)
  else (s, false, true)

theorem cut_spec {s : List Dom} {T : List (List Ce)} (hs : StOk s T) (k x v : Int) :
    DC Tryz.prog dom_Store_Cut.id [.ptr 0 1 0 0, .agg [V.i k, V.i x, V.i v]] (U s T) (fun r H => r = .tup [.bool (cutS s k x v).2.1, .bool (cutS s k x v).2.2] ∧ H = U (cutS s k x v).1 T) := by
  refine trimU (S' := fun _ => (cutS s k x v).1) (T' := fun _ => T) (Q := fun r => r = .tup [.bool (cutS s k x v).2.1, .bool (cutS s k x v).2.2]) ?_
  refine DC.of dom_Store_Cut.ok (by simp) ?_
  unfold dom_Store_Cut.ir
  obtain ⟨B, hB⟩ : ∃ B, B = O.mem false [] [[V.i k, V.i x, V.i v]] := ⟨_, rfl⟩
  refine vc_cut (fun st => gt st.sl 0 = .ptr 0 1 0 0 ∧ gt st.sl 3 = .ptr 3 1 0 0 ∧ st.hp = U s T ++ [B]) (by subst hB; simp) ?_
  rintro ⟨sl, hp, bs⟩ ⟨h0, h3, rfl⟩
  refine vc_cut (fun st => isB s x = true ∧ gt st.sl 0 = .ptr 0 1 0 0 ∧ gt st.sl 3 = .ptr 3 1 0 0 ∧ st.hp = U s T ++ [B]) ?_ ?_
  · subst hB
    simp [h0, h3, V.idsL, V.ids, UE_sub hs.t, UE_sel]
    refine DC.mono (isS_spec hs x) ?_
    rintro r H ⟨rfl, rfl⟩
    cases h : isB s x <;> simp [UE_merge hs.t, dom_Store_Cut.rs, cutS, h, V.ids, V.idsL]
  clear h0 h3
  rintro ⟨sl, hp, bs⟩ ⟨h, h0, h3, rfl⟩
  obtain ⟨i, d, rfl, hi, hd, hok, hr⟩ := hs.row h
  have hds : s[i] = d := by rw [List.getElem?_eq_getElem hi] at hd; injection hd
  have f1 := hok.f
  have f2 := hok.w
  refine vc_cut (fun st => gt st.sl 0 = .ptr 0 1 0 0 ∧ gt st.sl 3 = .ptr 3 1 0 0 ∧ gt st.sl 6 = .ptr 4 1 0 0 ∧ st.hp = U s T ++ [B, .mem false [] [d.row]]) ?_ ?_
  · subst hB; simp [h0, h3, h, hi, hds, U]
  clear h0 h3
  rintro ⟨sl, hp, bs⟩ ⟨h0, h3, h6, rfl⟩
  refine vc_cut (fun st => gt st.sl 0 = .ptr 0 1 0 0 ∧ gt st.sl 3 = .ptr 3 1 0 0 ∧ gt st.sl 6 = .ptr 4 1 0 0 ∧ st.hp = U s T ++ [B, .mem false [] [(cutTo k v d d.width).row]]) ?_ ?_
  · subst hB
    simp [h0, h3, h6]
    refine WI.mono (Q := fun e st => e = .exit 0 ∧ gt st.sl 0 = .ptr 0 1 0 0 ∧ gt st.sl 3 = .ptr 3 1 0 0 ∧ gt st.sl 6 = .ptr 4 1 0 0 ∧ st.hp = U s T ++ [.mem false [] [[V.i k, V.i i, V.i v]], .mem false [] [(cutTo k v d d.width).row]])
      (WI.loop 5 (by simp) (fun st => ∃ j, j ≤ d.width ∧ gt st.sl 0 = .ptr 0 1 0 0 ∧ gt st.sl 3 = .ptr 3 1 0 0 ∧ gt st.sl 6 = .ptr 4 1 0 0 ∧ gt st.sl 23 = V.i d.width ∧ gt st.sl 24 = V.i j ∧ st.hp = U s T ++ [.mem false [] [[V.i k, V.i i, V.i v]], .mem false [] [(cutTo k v d j).row]]) (fun st => (d.width - (gt st.sl 24).num).toNat) ?_ ?_) ?_
    · exact ⟨0, by simp [h0, h3, h6, cutTo]⟩
    · clear h0 h3 h6
      rintro ⟨sl, hp, bs⟩ ⟨j, hj, h0, h3, h6, h23, h24, rfl⟩
      by_cases hjl : j < d.width
      · have hw : IntKind.i64.wrap ((j : Int) + 1) = ((j + 1 : Nat) : Int) := by rw [wrap64] <;> omega
        have hw2 : IntKind.i64.wrap (d.from' + j) = d.from' + j := by rw [wrap64] <;> omega
        have hc := cutTo_from k v d j
        have hk := cutTo_ok k v hok j
        have hds := drop_spec (rows := [(cutTo k v d j).row]) (x := 0) (k := j) rfl hk (by omega)
        simp [dom_Store_Cut.b0, h0, h3, h6, h23, h24, hjl, hw, hw2, hc, UE2_clos, UE2_sel, V.idsL, V.ids]
        refine (goes_spec k i v _).use ?_
        cases hg : goesB k v (d.from' + j)
        · simp
          exact ⟨⟨j + 1, by omega, by omega, by simp [cutTo, hg]⟩, by omega⟩
        · simp [UE2_sub]
          refine DC.mono hds ?_
          rintro r H ⟨rfl, rfl⟩
          simp [UE2_merge]
          exact ⟨⟨j + 1, by omega, by omega, by simp [cutTo, hg]⟩, by omega⟩
      · obtain rfl : j = d.width := by omega
        simp [dom_Store_Cut.b0, h0, h3, h6, h23, h24]
    · rintro e ⟨sl, hp, bs⟩ ⟨rfl, h0, h3, h6, rfl⟩
      simp [h0, h3, h6]
  clear h0 h3 h6
  rintro ⟨sl, hp, bs⟩ ⟨h0, h3, h6, rfl⟩
  have hcw : cutS s k i v = if (cutTo k v d d.width).none then (s, false, false) else (s.set i (cutTo k v d d.width), !(cutTo k v d d.width).same d, true) := by
    unfold cutS; rw [if_pos h]; simp only [Int.toNat_natCast, hd]
  rw [hcw]
  generalize cutTo k v d d.width = d' at *
  subst hB
  refine vc_cut (fun st => d'.none = false ∧ gt st.sl 0 = .ptr 0 1 0 0 ∧ gt st.sl 3 = .ptr 3 1 0 0 ∧ gt st.sl 6 = .ptr 4 1 0 0 ∧ st.hp = U s T ++ [.mem false [] [[V.i k, V.i i, V.i v]], .mem false [] [d'.row]]) ?_ ?_
  · have hne : d'.none = (decide (d'.a = 0) && decide (d'.b = 0)) := rfl
    simp [h0, h3, h6, Dom.row, U, dom_Store_Cut.rs, V.ids, V.idsL]
    have hni : d'.none = true ↔ (d'.a = 0 ∧ d'.b = 0) := by simp [Dom.none]
    refine ⟨fun a b => ?_, fun hh => ?_⟩
    · have := hni.2 ⟨a, b⟩
      simp [this]
    · rw [Bool.eq_false_iff]
      intro e
      exact hh (hni.1 e).1 (hni.1 e).2
  clear h0 h3 h6
  rintro ⟨sl, hp, bs⟩ ⟨hn, h0, h3, h6, rfl⟩
  simp [h0, h3, h6, Dom.row, U, dom_Store_Cut.rs, V.ids, V.idsL, hn, hi, hds]
  rw [Bool.eq_iff_iff]
  simp [Dom.same]
  omega
end Go.Abs.G

namespace Go.Abs.G
open Go.Proofs
set_option linter.unusedVariables false
set_option linter.unusedSimpArgs false
attribute [local simp] I.vc

/-- A nil slice told as a slice without elements. -/
theorem DC.nilv {P : Program} {f : FuncId} {xs : List V} {H : Heap} {Q Q' : V → Heap → Prop} (es : Nat) (h : DC P f xs H Q) (hq : ∀ x H', Q x H' → Q' x H' ∨ (x = .a (.slice none 0 0) ∧ Q' (.view es []) H')) : DC P f xs H Q' := fun w β F vs hk hr =>
  (h w β F vs hk hr).mono fun e w' ⟨r, x, H', β2, h1, h2, h3, h4⟩ => by
    rcases hq x H' h4 with hQ | ⟨rfl, hQ⟩
    · exact ⟨r, x, H', β2, h1, h2, h3, hQ⟩
    · cases h3 with
      | a => exact ⟨_, .view es [], H', β2, h1, h2, .nilv, hQ⟩

def Dom.vals (d : Dom) (n : Nat) : List Int := ((List.range n).filter d.has).map fun i => d.from' + (i : Nat)
def valsB (s : List Dom) (x : Int) : List Int := if isB s x then ((s[x.toNat]?).map fun d => d.vals d.width).getD [] else []
theorem vals_succ (d : Dom) (n : Nat) : d.vals (n + 1) = if d.has n then d.vals n ++ [d.from' + n] else d.vals n := by
  unfold Dom.vals
  rw [List.range_succ, List.filter_append, List.map_append]
  cases h : d.has n <;> simp [h]
theorem vals_len (d : Dom) (n : Nat) : (d.vals n).length ≤ n := by
  unfold Dom.vals
  rw [List.length_map]
  exact Nat.le_trans (List.length_filter_le _ _) (by simp)

section
variable {s s' : List Dom} {T T' : List (List Ce)} {E : Heap}
@[simp] theorem U_take6 (a b c : O) : List.take 6 (U s T ++ (a :: b :: c :: E)) = U s T ++ [a, b, c] := rfl
@[simp] theorem U_take6' (a : O) : List.take 6 (U s T ++ [a]) = U s T ++ [a] := rfl
@[simp] theorem U_lim6 : (U s T).map (limO 6) = U s T := rfl
@[simp] theorem UE_5 (a b c : O) : (U s T ++ (a :: b :: c :: E))[5]? = some c := rfl
@[simp] theorem UE_5' (a b c : O) (h) : (U s T ++ (a :: b :: c :: E))[5]'h = c := rfl
@[simp] theorem UE_set5 (a b c o' : O) : (U s T ++ (a :: b :: c :: E)).set 5 o' = U s T ++ (a :: b :: o' :: E) := rfl
end

theorem values_spec {s : List Dom} {T : List (List Ce)} (hs : StOk s T) (x : Int) : DC Tryz.prog dom_Store_Values.id [.ptr 0 1 0 0, V.i x] (U s T) (fun r H => r = vInts (valsB s x) ∧ H = U s T) := by
  refine trimU (S' := fun _ => s) (T' := fun _ => T) (Q := fun r => r = vInts (valsB s x)) ?_
  refine DC.nilv (Q := fun r H' => (∀ i ∈ r.ids, i < 3) ∧ (r = vInts (valsB s x) ∨ r = .a (.slice none 0 0) ∧ valsB s x = []) ∧ ∃ E, H' = U s T ++ E) 1 ?_ ?_
  rotate_left
  · rintro r H' ⟨h1, h2 | ⟨h2, h4⟩, h3⟩
    · exact .inl ⟨h1, h2, h3⟩
    · refine .inr ⟨h2, by simp [V.ids], ?_, h3⟩
      rw [h4]; rfl
  refine DC.of dom_Store_Values.ok (by simp) ?_
  unfold dom_Store_Values.ir
  refine vc_cut (fun st => gt st.sl 0 = .ptr 0 1 0 0 ∧ gt st.sl 1 = V.i x ∧ st.hp = U s T) (by simp) ?_
  rintro ⟨sl, hp, bs⟩ ⟨h0, h1, rfl⟩
  refine vc_cut (fun st => isB s x = true ∧ gt st.sl 0 = .ptr 0 1 0 0 ∧ gt st.sl 1 = V.i x ∧ st.hp = U s T) ?_ ?_
  · simp [h0, h1, V.idsL, V.ids, U_sub hs.t, U_sel]
    refine DC.mono (isS_spec hs x) ?_
    rintro r H ⟨rfl, rfl⟩
    cases h : isB s x
    · have : valsB s x = [] := by simp [valsB, h]
      simp [U_merge hs.t, dom_Store_Values.rs, V.ids, this]
    · simp [U_merge hs.t, dom_Store_Values.rs]
  clear h0 h1
  rintro ⟨sl, hp, bs⟩ ⟨h, h0, h1, rfl⟩
  obtain ⟨i, d, rfl, hi, hd, hok, hr⟩ := hs.row h
  have hds : s[i] = d := by rw [List.getElem?_eq_getElem hi] at hd; injection hd
  have f1 := hok.f
  have f2 := hok.w
  have hB : valsB s i = d.vals d.width := by simp [valsB, h, hd]
  rw [hB]
  refine vc_cut (fun st => gt st.sl 5 = .a (.slice none 0 0) ∧ gt st.sl 0 = .ptr 0 1 0 0 ∧ gt st.sl 1 = V.i i ∧ st.hp = U s T) (by simp [h0, h1]) ?_
  clear h0 h1
  rintro ⟨sl, hp, bs⟩ ⟨h5, h0, h1, rfl⟩
  refine vc_cut (fun st => gt st.sl 5 = .a (.slice none 0 0) ∧ gt st.sl 6 = .ptr 3 1 0 0 ∧ st.hp = U s T ++ [.mem false [] [d.row]]) ?_ ?_
  · simp [h0, h1, h5, hi, hds, U]
  clear h0 h1 h5
  rintro ⟨sl, hp, bs⟩ ⟨h5, h6, rfl⟩
  refine vc_cut (fun st => (gt st.sl 5 = .a (.slice none 0 0) ∧ st.hp = U s T ++ [.mem false [] [d.row]] ∧ d.vals d.width = []) ∨ (gt st.sl 5 = .own 5 1 0 (d.vals d.width).length (d.vals d.width).length ∧ st.hp = U s T ++ [.mem false [] [d.row], .res, .mem false [] ((d.vals d.width).map fun n => [V.i n])])) ?_ ?_
  · simp [h5, h6]
    refine WI.mono (Q := fun e st => e = .exit 0 ∧ ((gt st.sl 5 = .a (.slice none 0 0) ∧ st.hp = U s T ++ [.mem false [] [d.row]] ∧ d.vals d.width = []) ∨ (gt st.sl 5 = .own 5 1 0 (d.vals d.width).length (d.vals d.width).length ∧ st.hp = U s T ++ [.mem false [] [d.row], .res, .mem false [] ((d.vals d.width).map fun n => [V.i n])])))
      (WI.loop 6 (by simp) (fun st => ∃ j, j ≤ d.width ∧ gt st.sl 6 = .ptr 3 1 0 0 ∧ gt st.sl 20 = V.i d.width ∧ gt st.sl 21 = V.i j ∧ ((gt st.sl 5 = .a (.slice none 0 0) ∧ st.hp = U s T ++ [.mem false [] [d.row]] ∧ d.vals j = []) ∨ (gt st.sl 5 = .own 5 1 0 (d.vals j).length (d.vals j).length ∧ st.hp = U s T ++ [.mem false [] [d.row], .res, .mem false [] ((d.vals j).map fun n => [V.i n])]))) (fun st => (d.width - (gt st.sl 21).num).toNat) ?_ ?_) ?_
    · exact ⟨0, by simp [h5, h6, Dom.vals]⟩
    · clear h5 h6
      rintro ⟨sl, hp, bs⟩ ⟨j, hj, h6, h20, h21, h5⟩
      by_cases hjl : j < d.width
      · have hw : IntKind.i64.wrap ((j : Int) + 1) = ((j + 1 : Nat) : Int) := by rw [wrap64] <;> omega
        have hw2 : IntKind.i64.wrap (d.from' + j) = d.from' + j := by rw [wrap64] <;> omega
        have hh := has_spec (rows := [d.row]) (d := d) (x := 0) (k := j) rfl hok (by omega)
        have hv := vals_succ d j
        have hvl := vals_len d j
        rcases h5 with ⟨h5, rfl, hnil⟩ | ⟨h5, rfl⟩
        · simp [dom_Store_Values.b0, h5, h6, h20, h21, hjl, hw, hw2, UE1_clos, UE1_sel, UE1_sub, V.idsL, V.ids] at hh ⊢
          refine DC.mono hh ?_
          rintro r H ⟨rfl, rfl⟩
          cases hg : d.has j
          · simp [UE1_merge]
            exact ⟨⟨j + 1, by omega, by omega, by rw [hv, hg]; exact hnil⟩, by omega⟩
          · simp [UE1_merge]
            exact ⟨⟨j + 1, by omega, by omega, by simp [hv, hg, hnil, hw2]⟩, by omega⟩
        · simp [dom_Store_Values.b0, h5, h6, h20, h21, hjl, hw, hw2, UE1_clos, UE1_sel, UE1_sub, V.idsL, V.ids] at hh ⊢
          refine DC.mono hh ?_
          rintro r H ⟨rfl, rfl⟩
          cases hg : d.has j
          · simp [UE1_merge]
            exact ⟨⟨j + 1, by omega, by omega, by simp [hv, hg]⟩, by omega⟩
          · simp [UE1_merge]
            exact ⟨by omega, ⟨j + 1, by omega, by omega, by simp [hv, hg, hw2]⟩, by omega⟩
      · obtain rfl : j = d.width := by omega
        simp [dom_Store_Values.b0, h6, h20, h21]
        exact h5
    · rintro e ⟨sl, hp, bs⟩ ⟨rfl, h5⟩
      simpa using h5
  clear h5 h6
  rintro ⟨sl, hp, bs⟩ (⟨h5, rfl, hnil⟩ | ⟨h5, rfl⟩)
  · simp [h5, hnil, dom_Store_Values.rs, V.ids, V.nilSl, vInts]
  · simp [h5, dom_Store_Values.rs, V.ids, V.nilSl, vInts]
    exact List.take_of_length_le (by simp)

theorem valsB_len {s : List Dom} {T : List (List Ce)} (hs : StOk s T) (x : Int) : (valsB s x).length ≤ 64 := by
  unfold valsB
  split
  · cases h : s[x.toNat]? with
    | none => simp
    | some d => exact Nat.le_trans (vals_len d d.width) (hs.d d (List.mem_of_getElem? h)).w
  · simp

theorem lo_spec {s : List Dom} {T : List (List Ce)} (hs : StOk s T) (x : Int) (hne : isB s x = true → valsB s x ≠ []) : DC Tryz.prog dom_Store_Lo.id [.ptr 0 1 0 0, V.i x] (U s T) (fun r H => r = V.i (if isB s x then (valsB s x).headD 0 else 0) ∧ H = U s T) := by
  refine DC.of dom_Store_Lo.ok (by simp) ?_
  unfold dom_Store_Lo.ir
  refine vc_cut (fun st => gt st.sl 0 = .ptr 0 1 0 0 ∧ gt st.sl 1 = V.i x ∧ st.hp = U s T) (by simp) ?_
  rintro ⟨sl, hp, bs⟩ ⟨h0, h1, rfl⟩
  refine vc_cut (fun st => isB s x = true ∧ gt st.sl 0 = .ptr 0 1 0 0 ∧ gt st.sl 1 = V.i x ∧ st.hp = U s T) ?_ ?_
  · simp [h0, h1, V.idsL, V.ids, U_sub hs.t, U_sel]
    refine DC.mono (isS_spec hs x) ?_
    rintro r H ⟨rfl, rfl⟩
    cases h : isB s x <;> simp [U_merge hs.t, dom_Store_Lo.rs]
  clear h0 h1
  rintro ⟨sl, hp, bs⟩ ⟨h, h0, h1, rfl⟩
  have hn := hne h
  simp [h0, h1, h, V.idsL, V.ids, U_sub hs.t, U_sel]
  refine DC.mono (values_spec hs x) ?_
  rintro r H ⟨rfl, rfl⟩
  obtain ⟨a, l, hl⟩ := List.exists_cons_of_ne_nil hn
  simp [U_merge hs.t, dom_Store_Lo.rs, hl, vInts]
theorem hi_spec {s : List Dom} {T : List (List Ce)} (hs : StOk s T) (x : Int) (hne : isB s x = true → valsB s x ≠ []) : DC Tryz.prog dom_Store_Hi.id [.ptr 0 1 0 0, V.i x] (U s T) (fun r H => r = V.i (if isB s x then (valsB s x).getLastD 0 else 0) ∧ H = U s T) := by
  refine DC.of dom_Store_Hi.ok (by simp) ?_
  unfold dom_Store_Hi.ir
  refine vc_cut (fun st => gt st.sl 0 = .ptr 0 1 0 0 ∧ gt st.sl 1 = V.i x ∧ st.hp = U s T) (by simp) ?_
  rintro ⟨sl, hp, bs⟩ ⟨h0, h1, rfl⟩
  refine vc_cut (fun st => isB s x = true ∧ gt st.sl 0 = .ptr 0 1 0 0 ∧ gt st.sl 1 = V.i x ∧ st.hp = U s T) ?_ ?_
  · simp [h0, h1, V.idsL, V.ids, U_sub hs.t, U_sel]
    refine DC.mono (isS_spec hs x) ?_
    rintro r H ⟨rfl, rfl⟩
    cases h : isB s x <;> simp [U_merge hs.t, dom_Store_Hi.rs]
  clear h0 h1
  rintro ⟨sl, hp, bs⟩ ⟨h, h0, h1, rfl⟩
  have hn := hne h
  simp [h0, h1, h, V.idsL, V.ids, U_sub hs.t, U_sel]
  refine DC.mono (values_spec hs x) ?_
  rintro r H ⟨rfl, rfl⟩
  have hlen := valsB_len hs x
  have hpos : 0 < (valsB s x).length := List.length_pos_iff.2 hn
  have hw : IntKind.i64.wrap (((valsB s x).length : Int) - 1) = (((valsB s x).length - 1 : Nat) : Int) := by rw [wrap64] <;> omega
  have hlt : (valsB s x).length - 1 < (valsB s x).length := by omega
  simp [U_merge hs.t, dom_Store_Hi.rs, vInts, hw, hlt, List.getLast?_eq_getElem?]
end Go.Abs.G

namespace Go.Abs.G
open Go.Proofs
set_option linter.unusedVariables false
set_option linter.unusedSimpArgs false
attribute [local simp] I.vc

def openB (s : List Dom) (n : Nat) : List Int := ((List.range n).filter fun i => decide (1 < ((s[i]?).map Dom.size).getD 0)).map fun (i : Nat) => (i : Int)
theorem open_succ (s : List Dom) (n : Nat) : openB s (n + 1) = if 1 < ((s[n]?).map Dom.size).getD 0 then openB s n ++ [(n : Int)] else openB s n := by
  unfold openB
  rw [List.range_succ, List.filter_append, List.map_append]
  by_cases h : 1 < ((s[n]?).map Dom.size).getD 0 <;> simp [h]
theorem open_len (s : List Dom) (n : Nat) : (openB s n).length ≤ n := by
  unfold openB
  rw [List.length_map]
  exact Nat.le_trans (List.length_filter_le _ _) (by simp)
section
variable {s s' : List Dom} {T T' : List (List Ce)} {E : Heap}
@[simp] theorem U_take5b (a b : O) : List.take 5 (U s T ++ (a :: b :: E)) = U s T ++ [a, b] := rfl
@[simp] theorem U_take5c : List.take 5 (U s T) = U s T := rfl
end

theorem open_spec {s : List Dom} {T : List (List Ce)} (hs : StOk s T) : DC Tryz.prog dom_Store_Open.id [.ptr 0 1 0 0] (U s T) (fun r H => r = vInts (openB s s.length) ∧ H = U s T) := by
  refine trimU (S' := fun _ => s) (T' := fun _ => T) (Q := fun r => r = vInts (openB s s.length)) ?_
  have hsn := hs.n
  refine DC.of dom_Store_Open.ok (by simp) ?_
  unfold dom_Store_Open.ir
  refine vc_cut (fun st => gt st.sl 0 = .ptr 0 1 0 0 ∧ st.hp = U s T) (by simp) ?_
  rintro ⟨sl, hp, bs⟩ ⟨h0, rfl⟩
  refine vc_cut (fun st => gt st.sl 0 = .ptr 0 1 0 0 ∧ gt st.sl 3 = .a (.slice none 0 0) ∧ st.hp = U s T) (by simp [h0]) ?_
  clear h0
  rintro ⟨sl, hp, bs⟩ ⟨h0, h3, rfl⟩
  refine vc_cut (fun st => (gt st.sl 3 = .a (.slice none 0 0) ∧ st.hp = U s T ∧ openB s s.length = []) ∨ (gt st.sl 3 = .own 4 1 0 (openB s s.length).length (openB s s.length).length ∧ st.hp = U s T ++ [.res, .mem false [] ((openB s s.length).map fun n => [V.i n])])) ?_ ?_
  · simp [h0, h3]
    refine WI.mono (Q := fun e st => e = .exit 0 ∧ ((gt st.sl 3 = .a (.slice none 0 0) ∧ st.hp = U s T ∧ openB s s.length = []) ∨ (gt st.sl 3 = .own 4 1 0 (openB s s.length).length (openB s s.length).length ∧ st.hp = U s T ++ [.res, .mem false [] ((openB s s.length).map fun n => [V.i n])])))
      (WI.loop 5 (by simp) (fun st => ∃ j, j ≤ s.length ∧ gt st.sl 0 = .ptr 0 1 0 0 ∧ gt st.sl 9 = V.i s.length ∧ gt st.sl 10 = V.i j ∧ ((gt st.sl 3 = .a (.slice none 0 0) ∧ st.hp = U s T ∧ openB s j = []) ∨ (gt st.sl 3 = .own 4 1 0 (openB s j).length (openB s j).length ∧ st.hp = U s T ++ [.res, .mem false [] ((openB s j).map fun n => [V.i n])]))) (fun st => (s.length - (gt st.sl 10).num).toNat) ?_ ?_) ?_
    · exact ⟨0, by simp [h0, h3, openB]⟩
    · clear h0 h3
      rintro ⟨sl, hp, bs⟩ ⟨j, hj, h0, h9, h10, h3⟩
      by_cases hjl : j < s.length
      · have hw : IntKind.i64.wrap ((j : Int) + 1) = ((j + 1 : Nat) : Int) := by rw [wrap64] <;> omega
        have hv := open_succ s j
        have hvl := open_len s j
        have hB : isB s j = true := by simp [isB]; omega
        have hz := sizeS_spec hs j
        rw [if_pos hB] at hz
        simp only [Int.toNat_natCast] at hz
        generalize ((s[j]?).map Dom.size).getD 0 = z at hz hv
        rcases h3 with ⟨h3, rfl, hnil⟩ | ⟨h3, rfl⟩
        · simp [dom_Store_Open.b0, h0, h3, h9, h10, hjl, hw, U_clos, U_sel, U_sub hs.t, V.idsL, V.ids]
          refine DC.mono hz ?_
          rintro r H ⟨rfl, rfl⟩
          by_cases hg : 1 < z
          · have hg' : (1 : Int) < z := by omega
            simp [U_merge hs.t, hg']
            exact ⟨⟨j + 1, by omega, by omega, by simp [hv, hg, hnil]⟩, by omega⟩
          · have hg' : ¬ (1 : Int) < z := by omega
            simp [U_merge hs.t, hg']
            exact ⟨⟨j + 1, by omega, by omega, by rw [hv, if_neg hg]; exact hnil⟩, by omega⟩
        · simp [dom_Store_Open.b0, h0, h3, h9, h10, hjl, hw, UE_clos, UE_sel, UE_sub hs.t, V.idsL, V.ids]
          refine DC.mono hz ?_
          rintro r H ⟨rfl, rfl⟩
          by_cases hg : 1 < z
          · have hg' : (1 : Int) < z := by omega
            simp [UE_merge hs.t, hg']
            exact ⟨by omega, ⟨j + 1, by omega, by omega, by simp [hv, hg]⟩, by omega⟩
          · have hg' : ¬ (1 : Int) < z := by omega
            simp [UE_merge hs.t, hg']
            exact ⟨⟨j + 1, by omega, by omega, by simp [hv, hg]⟩, by omega⟩
      · obtain rfl : j = s.length := by omega
        simp [dom_Store_Open.b0, h0, h9, h10]
        exact h3
    · rintro e ⟨sl, hp, bs⟩ ⟨rfl, h5⟩
      simpa using h5
  clear h0 h3
  rintro ⟨sl, hp, bs⟩ (⟨h5, rfl, hnil⟩ | ⟨h5, rfl⟩)
  · simp [h5, hnil, dom_Store_Open.rs, V.ids, V.nilSl, vInts]
  · simp [h5, dom_Store_Open.rs, V.ids, V.nilSl, vInts]
    exact List.take_of_length_le (by simp)
end Go.Abs.G

namespace Go.Abs
set_option linter.unusedVariables false
section
variable {w : World} {β : Nat → Hd} {F : Nat → Prop} {H : Heap}

/-- An object of trees told otherwise, in the same blocks. -/
theorem adv_tree {id : Nat} {refs refs' : List Nat} {rows rows' : List (List Ce)} (hk : HOK w.heap H β F) (hid : H[id]? = some (.tree refs rows)) (hl : rows'.length = rows.length)
    (h : ∀ c' : Cx, c'.hp = w.heap → ((cx w.heap H β F).only refs).le (c'.only refs) → ∀ S ad cap es, TR c' refs S (.slice (some ad) rows.length cap) (.n es rows) → TR c' refs' S (.slice (some ad) rows.length cap) (.n es rows')) :
    ∃ β', Adv F w H β w (H.set id (.tree refs' rows')) β' := by
  refine ⟨_, turn_at (S := (β id).sub) hk hid (by simp) (fun b hb => ?_) (fun g' hg => ?_) fun hle => ?_⟩
  · unfold ownsB at hb ⊢
    rw [get_set hid, upd_same] at hb
    rw [hid]
    exact hb
  · unfold hdOf at hg ⊢
    rw [get_set hid, upd_same] at hg
    rw [hid]
    simp only [hl] at hg
    exact hg
  · rcases hk.ro id _ hid with hr | ⟨q1, q2, q3, q4, q5⟩
    · refine .inl ⟨hr.1, ?_, hr.2.2⟩
      have := hr.2.1
      exact List.length_eq_zero_iff.1 (by rw [hl, this]; rfl)
    · refine .inr ⟨q1, q2, q3, ?_, q5⟩
      rw [hl]
      exact h _ rfl (hle.only _) _ _ _ _ (q4.mono (hle.only _) fun _ _ => rfl)

theorem adv_refsT {id : Nat} {refs refs' : List Nat} {rows : List (List Ce)} (hk : HOK w.heap H β F) (hid : H[id]? = some (.tree refs rows)) (hs : ∀ k ∈ Ce.idsR rows, k ∈ refs') : ∃ β', Adv F w H β w (H.set id (.tree refs' rows)) β' :=
  adv_tree hk hid rfl fun c' _ _ S ad cap es h => h.refs fun k hk => hs k (by simpa only [Ce.ids] using hk)

theorem adv_nilcell {id i j es : Nat} {refs : List Nat} {rows : List (List Ce)} {row : List Ce} (hk : HOK w.heap H β F) (hid : H[id]? = some (.tree refs rows)) (hi : rows[i]? = some row) (hj : row[j]? = some (.v (.a (.slice none 0 0)))) :
    ∃ β', Adv F w H β w (H.set id (.tree refs (rows.set i (row.set j (.n es []))))) β' := by
  refine adv_tree hk hid List.length_set fun c' _ _ S ad cap es' h => ?_
  obtain ⟨u, Sx, hx, hxs, _, hset⟩ := h.cell hi hj
  have hu : u = .slice none 0 0 := by
    have := hx.val
    cases this with
    | a => rfl
  subst hu
  have hn := hx.vsub
  exact (hset c' refs rfl (fun _ _ _ h => h) (.n es []) noSub .nil fun k e => e.elim).congr fun k => ⟨fun e => e.elim (fun e => e.1) fun e => e.elim, fun e => .inl ⟨e, hn k⟩⟩

theorem lo_of_ptr {c : Cx} {v : Value} {id n : Nat} {h : Hd} (hv : RV c v (.ptr id n 0 0)) (hd : c.hd id = some h) (ht : h.tot = n) : h.lo = 0 := by
  cases hv with
  | ptr hl hh => exact Nat.le_zero.1 ((hh h hd).2 ht).1

abbrev nilS : V := .a (.slice none 0 0)

/-- A struct of two nil slices, as one that owns two slices. -/
theorem adv_nil2 {id e1 e2 : Nat} (hk : HOK w.heap H β F) (hid : H[id]? = some (.mem false [] [[nilS, nilS]])) (hlo : (β id).lo = 0) :
    ∃ β', Adv F w H β w (H.set id (.mem false [H.length, H.length + 1] [[.own H.length e1 0 0 0, .own (H.length + 1) e2 0 0 0]]) ++ [.mem false [] [], .tree [] []]) β' := by
  have hlt := lt_of_get hid
  obtain ⟨β1, a1⟩ := adv_toTree hk hid hlo
  have g1 := get_set (y := O.tree [] (flatC [[nilS, nilS]])) hid
  obtain ⟨β2, a2⟩ := adv_nilcell (i := 0) (j := 0) (es := e1) a1.hok g1 rfl rfl
  rw [List.set_set] at a2
  have g2 := get_set (y := O.tree [] [[.n e1 [], .v nilS]]) hid
  obtain ⟨β3, a3⟩ := adv_nilcell (i := 0) (j := 1) (es := e2) a2.hok g2 rfl rfl
  rw [List.set_set] at a3
  have g3 := get_set (y := O.tree [] [[.n e1 [], .n e2 []]]) hid
  obtain ⟨β4, a4⟩ := adv_unpack (i := 0) (j := 0) a3.hok g3 rfl rfl
  rw [List.set_set, List.length_set] at a4
  replace a4 : Adv F w (H.set id (.tree [] [[.n e1 [], .n e2 []]])) β3 w (H.set id (.tree [H.length] [[.v (.own H.length e1 0 0 0), .n e2 []]]) ++ [O.tree [] []]) β4 := a4
  have g4 : (H.set id (.tree [H.length] [[.v (.own H.length e1 0 0 0), .n e2 []]]) ++ [O.tree [] []])[id]? = some (.tree [H.length] [[.v (.own H.length e1 0 0 0), .n e2 []]]) := by
    rw [List.getElem?_append_left (by simpa using hlt)]; exact get_set hid
  obtain ⟨β5, a5⟩ := adv_unpack (i := 0) (j := 1) a4.hok g4 rfl rfl
  have e5 : (H.set id (.tree [H.length] [[.v (.own H.length e1 0 0 0), .n e2 []]]) ++ [O.tree [] []]).set id (.tree [H.length + 1, H.length] [[.v (.own H.length e1 0 0 0), .v (.own (H.length + 1) e2 0 0 0)]]) ++ [.tree [H.length] []] = H.set id (.tree [H.length + 1, H.length] [[.v (.own H.length e1 0 0 0), .v (.own (H.length + 1) e2 0 0 0)]]) ++ [.tree [] [], .tree [H.length] []] := by
    rw [List.set_append, if_pos (by simpa using hlt), List.set_set, List.append_assoc]; rfl
  have l5 : (H.set id (.tree [H.length] [[.v (.own H.length e1 0 0 0), .n e2 []]]) ++ [O.tree [] []]).length = H.length + 1 := by simp
  rw [l5] at a5
  have a5' : Adv F w (H.set id (.tree [H.length] [[.v (.own H.length e1 0 0 0), .n e2 []]]) ++ [O.tree [] []]) β4 w ((H.set id (.tree [H.length] [[.v (.own H.length e1 0 0 0), .n e2 []]]) ++ [O.tree [] []]).set id (.tree [H.length + 1, H.length] [[.v (.own H.length e1 0 0 0), .v (.own (H.length + 1) e2 0 0 0)]]) ++ [.tree [H.length] []]) β5 := a5
  rw [e5] at a5'
  generalize hP : O.tree [H.length + 1, H.length] [[.v (.own H.length e1 0 0 0), .v (.own (H.length + 1) e2 0 0 0)]] = P at a5'
  have g5 : (H.set id P ++ [O.tree [] [], O.tree [H.length] []])[H.length + 1]? = some (.tree [H.length] []) := by
    rw [List.getElem?_append_right (by simp)]; simp
  obtain ⟨β6, a6⟩ := adv_refsT (refs' := []) a5'.hok g5 (by simp [Ce.idsR])
  have e6 : (H.set id P ++ [O.tree [] [], O.tree [H.length] []]).set (H.length + 1) (O.tree [] []) = H.set id P ++ [O.tree [] [], O.tree [] []] := by
    rw [List.set_append, if_neg (by simp)]; simp
  rw [e6] at a6
  have g6 : (H.set id P ++ [O.tree [] [], .tree [] []])[H.length]? = some (.tree [] (flatC [])) := by
    rw [List.getElem?_append_right (by simp)]; simp [flatC]
  obtain ⟨β7, a7⟩ := adv_toMem a6.hok g6
  have e7 : (H.set id P ++ [O.tree [] [], .tree [] []]).set H.length (.mem false [] []) = H.set id P ++ [.mem false [] [], .tree [] []] := by
    rw [List.set_append, if_neg (by simp)]; simp
  rw [e7] at a7
  subst hP
  have g7 : (H.set id (.tree [H.length + 1, H.length] [[.v (.own H.length e1 0 0 0), .v (.own (H.length + 1) e2 0 0 0)]]) ++ [O.mem false [] [], .tree [] []])[id]? = some (.tree [H.length + 1, H.length] [[.v (.own H.length e1 0 0 0), .v (.own (H.length + 1) e2 0 0 0)]]) := by
    rw [List.getElem?_append_left (by simpa using hlt)]; exact get_set hid
  obtain ⟨β8, a8⟩ := adv_refsT (refs' := [H.length, H.length + 1]) a7.hok g7 (by simp [Ce.idsR, Ce.idsL, Ce.ids, V.ids])
  have e8 : ∀ P P' : O, (H.set id P ++ [O.mem false [] [], .tree [] []]).set id P' = H.set id P' ++ [O.mem false [] [], .tree [] []] := fun P P' => by
    rw [List.set_append, if_pos (by simpa using hlt), List.set_set]
  rw [e8] at a8
  have g8 : (H.set id (.tree [H.length, H.length + 1] [[.v (.own H.length e1 0 0 0), .v (.own (H.length + 1) e2 0 0 0)]]) ++ [O.mem false [] [], .tree [] []])[id]? = some (.tree [H.length, H.length + 1] (flatC [[.own H.length e1 0 0 0, .own (H.length + 1) e2 0 0 0]])) := by
    rw [List.getElem?_append_left (by simpa using hlt)]; exact get_set hid
  obtain ⟨β9, a9⟩ := adv_toMem a8.hok g8
  rw [e8] at a9
  exact ⟨β9, a1.trans (a2.trans (a3.trans (a4.trans (a5'.trans (a6.trans (a7.trans (a8.trans a9)))))))⟩
end
end Go.Abs
namespace Go.Abs
theorem Weak.nil2 {st : St} {id e1 e2 t : Nat} (hid : st.hp[id]? = some (.mem false [] [[nilS, nilS]])) (ht : gt st.sl t = .ptr id 1 0 0) :
    Weak st { st with hp := st.hp.set id (.mem false [st.hp.length, st.hp.length + 1] [[.own st.hp.length e1 0 0 0, .own (st.hp.length + 1) e2 0 0 0]]) ++ [.mem false [] [], .tree [] []] } := by
  refine ⟨rfl, fun k hk => ?_, by simp, fun w β F N a hR => ?_⟩
  · show (st.hp.set id _ ++ _)[k]? = _
    have hne : k ≠ id := by rintro rfl; rw [hid] at hk; simp at hk
    rw [List.getElem?_append_left (by rw [List.length_set]; exact lt_of_get hk), getElem?_set_ne' hne]; exact hk
  · have hs := hR.sl t
    rw [ht] at hs
    have hd : (cx w.heap st.hp β F).hd id = some ((β id).wt 1) := by show hdOf st.hp β id = _; unfold hdOf; rw [hid]; rfl
    have hlo : ((β id).wt 1).lo = 0 := lo_of_ptr (h := (β id).wt 1) hs hd rfl
    obtain ⟨β', adv⟩ := adv_nil2 (e1 := e1) (e2 := e2) hR.hok hid hlo
    exact ⟨β', adv, hR.adv adv⟩
end Go.Abs

namespace Go.Abs
set_option linter.unusedVariables false

/-- A child: its number, its cells' size, what it may name, its rows. -/
structure Kid where
  id : Nat
  es : Nat
  refs : List Nat
  L : List (List Ce)

def Kid.own (c : Kid) : List Ce := [.v (.own c.id c.es 0 c.L.length c.L.length)]
def Kid.nest (c : Kid) : List Ce := [.n c.es c.L]

theorem adv_packAll {w : World} {F : Nat → Prop} {id : Nat} : ∀ (todo done : List Kid) (H : Heap) (β : Nat → Hd) (refs : List Nat), HOK w.heap H β F →
    H[id]? = some (.tree refs (done.map Kid.nest ++ todo.map Kid.own)) → (∀ c ∈ todo, H[c.id]? = some (.tree c.refs c.L) ∧ c.id ≠ id) → (todo.map Kid.id).Nodup →
    ∃ β' H' refs', Adv F w H β w H' β' ∧ H'[id]? = some (.tree refs' ((done ++ todo).map Kid.nest)) ∧ H'.length = H.length ∧ ∀ j, j ≠ id → j ∉ todo.map Kid.id → H'[j]? = H[j]?
  | [], done, H, β, refs, hk, hid, _, _ => ⟨β, H, refs, ⟨hk, .refl _, .refl _ _⟩, by simpa using hid, rfl, fun _ _ _ => rfl⟩
  | c :: rest, done, H, β, refs, hk, hid, hc, hnd => by
    obtain ⟨h1, h2⟩ := hc c (by simp)
    have hi : (done.map Kid.nest ++ (c :: rest).map Kid.own)[done.length]? = some c.own := by
      rw [List.getElem?_append_right (by simp)]; simp
    obtain ⟨β1, a1⟩ := adv_pack (i := done.length) (j := 0) hk hid h1 (fun e => h2 e.symm) hi rfl rfl
    have e1 : (done.map Kid.nest ++ (c :: rest).map Kid.own).set done.length (c.own.set 0 (.n c.es c.L)) = (done ++ [c]).map Kid.nest ++ rest.map Kid.own := by
      rw [List.set_append, if_neg (by simp)]; simp [Kid.own, Kid.nest]
    rw [e1] at a1
    have hid0 : (H.set c.id O.dead)[id]? = some (.tree refs (done.map Kid.nest ++ (c :: rest).map Kid.own)) := by rw [getElem?_set_ne' (Ne.symm h2)]; exact hid
    have g1 : ((H.set c.id O.dead).set id (.tree (refs ++ c.refs) ((done ++ [c]).map Kid.nest ++ rest.map Kid.own)))[id]? = some (.tree (refs ++ c.refs) ((done ++ [c]).map Kid.nest ++ rest.map Kid.own)) := get_set hid0
    have hnd' : c.id ∉ rest.map Kid.id ∧ (rest.map Kid.id).Nodup := by simpa using List.nodup_cons.1 hnd
    obtain ⟨β2, H2, refs2, a2, b1, b2, b3⟩ := adv_packAll rest (done ++ [c]) _ β1 _ a1.hok g1 (fun d hd => by
      obtain ⟨q1, q2⟩ := hc d (by simp [hd])
      refine ⟨?_, q2⟩
      rw [getElem?_set_ne' q2, getElem?_set_ne' fun e => hnd'.1 (by rw [← e]; exact List.mem_map_of_mem hd)]
      exact q1) hnd'.2
    refine ⟨β2, H2, refs2, a1.trans a2, by simpa using b1, by simpa using b2, fun j h3 h4 => ?_⟩
    rw [List.map_cons, List.mem_cons, not_or] at h4
    rw [b3 j h3 h4.2, getElem?_set_ne' h3, getElem?_set_ne' h4.1]

end Go.Abs

namespace Go.Abs
set_option linter.unusedVariables false

def kids (es : Nat) : Nat → List (List (List Ce)) → List Kid
  | _, [] => []
  | n, L :: l => ⟨n, es, [], L⟩ :: kids es (n + 1) l

theorem kids_ids (es : Nat) : ∀ (n : Nat) (l : List (List (List Ce))), (kids es n l).map Kid.id = List.range' n l.length
  | _, [] => rfl
  | n, L :: l => by simp [kids, kids_ids es (n + 1) l, List.range'_succ]

theorem kids_L (es : Nat) : ∀ (n : Nat) (l : List (List (List Ce))), (kids es n l).map Kid.nest = l.map fun L => [Ce.n es L]
  | _, [] => rfl
  | n, L :: l => by simp [kids, Kid.nest, kids_L es (n + 1) l]

theorem own_idsR : ∀ (l : List Kid), Ce.idsR (l.map Kid.own) = l.map Kid.id
  | [] => rfl
  | c :: l => by simp [Ce.idsR, Ce.idsL, Kid.own, Ce.ids, V.ids, own_idsR l]

theorem adv_kids {w : World} {F : Nat → Prop} {id : Nat} {es : Nat} : ∀ (todo : List (List (List Ce))) (done : List Kid) (H : Heap) (β : Nat → Hd) (refs : List Nat), HOK w.heap H β F → (∀ L ∈ todo, Ce.idsR L = []) →
    H[id]? = some (.tree refs (done.map Kid.own ++ todo.map fun L => [.n es L])) →
    ∃ β' refs', Adv F w H β w (H.set id (.tree refs' ((done ++ kids es H.length todo).map Kid.own)) ++ todo.map fun L => .tree [] L) β'
  | [], done, H, β, refs, hk, _, hid => ⟨β, refs, by
      have : H.set id (.tree refs ((done ++ kids es H.length []).map Kid.own)) ++ ([] : List (List (List Ce))).map (fun L => O.tree [] L) = H := by
        obtain ⟨h1, h2⟩ := List.getElem?_eq_some_iff.1 hid
        simp only [List.append_nil, List.map_nil, kids] at h2 ⊢
        rw [← h2]; exact List.set_getElem_self h1
      rw [this]; exact ⟨hk, .refl _, .refl _ _⟩⟩
  | L :: rest, done, H, β, refs, hk, hcl, hid => by
    have hi : (done.map Kid.own ++ (L :: rest).map fun L => [Ce.n es L])[done.length]? = some [.n es L] := by
      rw [List.getElem?_append_right (by simp)]; simp
    obtain ⟨β1, a1⟩ := adv_unpack (i := done.length) (j := 0) hk hid hi rfl
    let c : Kid := ⟨H.length, es, [], L⟩
    have e1 : (done.map Kid.own ++ (L :: rest).map fun L => [Ce.n es L]).set done.length (([Ce.n es L] : List Ce).set 0 (.v (.own H.length es 0 L.length L.length))) = (done ++ [c]).map Kid.own ++ rest.map fun L => [Ce.n es L] := by
      rw [List.set_append, if_neg (by simp)]; simp [Kid.own, c]
    rw [e1] at a1
    have hlt := lt_of_get hid
    generalize hP : O.tree (H.length :: refs) ((done ++ [c]).map Kid.own ++ rest.map fun L => [Ce.n es L]) = P at a1
    have g0 : (H.set id P ++ [O.tree refs L])[H.length]? = some (.tree refs L) := by
      rw [List.getElem?_append_right (by simp)]; simp
    obtain ⟨β2, a2⟩ := adv_refsT (refs' := []) a1.hok g0 (by rw [hcl L (by simp)]; simp)
    have e2 : (H.set id P ++ [O.tree refs L]).set H.length (.tree [] L) = H.set id P ++ [O.tree [] L] := by
      rw [List.set_append, if_neg (by simp)]; simp
    rw [e2] at a2
    subst hP
    have g1 : (H.set id (.tree (H.length :: refs) ((done ++ [c]).map Kid.own ++ rest.map fun L => [Ce.n es L])) ++ [O.tree [] L])[id]? = some (.tree (H.length :: refs) ((done ++ [c]).map Kid.own ++ rest.map fun L => [Ce.n es L])) := by
      rw [List.getElem?_append_left (by simpa using hlt)]; exact get_set hid
    obtain ⟨β3, refs3, a3⟩ := adv_kids rest (done ++ [c]) _ β2 _ a2.hok (fun L' h => hcl L' (by simp [h])) g1
    refine ⟨β3, refs3, ?_⟩
    have := a1.trans (a2.trans a3)
    rw [List.set_append, if_pos (by simpa using hlt), List.set_set, List.append_assoc] at this
    simpa [c, kids] using this

/-- A tree of closed slices, taken apart: the slices become objects behind the others. -/
theorem adv_open {w : World} {F : Nat → Prop} {β : Nat → Hd} {H : Heap} {id es : Nat} {refs : List Nat} {todo : List (List (List Ce))} (hk : HOK w.heap H β F) (hcl : ∀ L ∈ todo, Ce.idsR L = [])
    (hid : H[id]? = some (.tree refs (todo.map fun L => [.n es L]))) :
    ∃ β', Adv F w H β w (H.set id (.mem false (List.range' H.length todo.length) ((kids es H.length todo).map fun c => [.own c.id c.es 0 c.L.length c.L.length])) ++ todo.map fun L => .tree [] L) β' := by
  obtain ⟨β1, refs1, a1⟩ := adv_kids todo [] H β refs hk hcl (by simpa using hid)
  have hlt := lt_of_get hid
  have g1 : (H.set id (.tree refs1 (([] ++ kids es H.length todo).map Kid.own)) ++ todo.map fun L => O.tree [] L)[id]? = some (.tree refs1 (([] ++ kids es H.length todo).map Kid.own)) := by
    rw [List.getElem?_append_left (by simpa using hlt)]; exact get_set hid
  obtain ⟨β2, a2⟩ := adv_refsT (refs' := List.range' H.length todo.length) a1.hok g1 (by rw [List.nil_append, own_idsR, kids_ids]; exact fun k h => h)
  rw [List.set_append, if_pos (by simpa using hlt), List.set_set] at a2
  have ef : ([] ++ kids es H.length todo).map Kid.own = flatC ((kids es H.length todo).map fun c => [.own c.id c.es 0 c.L.length c.L.length]) := by
    simp [flatC, Kid.own, Function.comp_def]
  rw [ef] at a1 a2
  have g2 : (H.set id (.tree (List.range' H.length todo.length) (flatC ((kids es H.length todo).map fun c => [.own c.id c.es 0 c.L.length c.L.length]))) ++ todo.map fun L => O.tree [] L)[id]? = some (.tree (List.range' H.length todo.length) (flatC ((kids es H.length todo).map fun c => [.own c.id c.es 0 c.L.length c.L.length]))) := by
    rw [List.getElem?_append_left (by simpa using hlt)]; exact get_set hid
  obtain ⟨β3, a3⟩ := adv_toMem a2.hok g2
  rw [List.set_append, if_pos (by simpa using hlt), List.set_set] at a3
  exact ⟨β3, a1.trans (a2.trans a3)⟩

/-- A slice's object has its front, when a cell holds the whole of it. -/
theorem lo_of_cell {w : World} {F : Nat → Prop} {β : Nat → Hd} {H : Heap} {p c i j es k : Nat} {refs : List Nat} {rows : List (List V)} {row : List V} (hk : HOK w.heap H β F) (hp : H[p]? = some (.mem false refs rows)) (hlo : (β p).lo = 0)
    (hi : rows[i]? = some row) (hj : row[j]? = some (.own c es 0 k k)) (hc : hdOf H β c = some ((β c).wt k)) : (β c).lo = 0 := by
  rcases hk.ro p _ hp with hr | ⟨q1, q2, q3, q4, q5, cs, E, fr, q6, q7, q8, q9⟩
  · rw [hr.2.1] at hi; simp at hi
  · obtain ⟨v, _, _, hv⟩ := q9 i row hi (by rw [hlo]; exact Nat.zero_le _) j _ hj
    cases hv with
    | own hl hh => exact Nat.le_zero.1 ((hh _ hc).2 rfl).1
end Go.Abs

namespace Go.Abs.G
open Go.Proofs
set_option linter.unusedVariables false
set_option linter.unusedSimpArgs false
attribute [local simp] I.vc

def Z (s : List Dom) (rf : List Nat) (R : List (List V)) : Heap := [.mem false [1, 2] [[.own 1 4 0 s.length s.length, .own 2 1 0 R.length R.length]], .mem false [] (s.map Dom.row), .mem false rf R]
section
variable {s : List Dom} {rf : List Nat} {R : List (List V)} {Es E : Heap} {n : Nat}
theorem Z_at (o : O) (h : n = 3 + Es.length) : (Z s rf R ++ (Es ++ (o :: E)))[n]? = some o := by
  subst h
  rw [List.getElem?_append_right (by simp [Z])]; simp [Z]
theorem Z_at1 (o o' : O) (h : n = 3 + Es.length) : (Z s rf R ++ (Es ++ (o :: o' :: E)))[n + 1]? = some o' := by
  subst h
  rw [List.getElem?_append_right (by simp [Z]; omega)]; simp [Z]
  rw [List.getElem?_append_right (by omega)]
  have : 3 + Es.length - 2 - Es.length = 1 := by omega
  rw [this]; rfl
theorem Z_set (o o' : O) (h : n = 3 + Es.length) : (Z s rf R ++ (Es ++ (o :: E))).set n o' = Z s rf R ++ (Es ++ (o' :: E)) := by
  subst h
  rw [List.set_append, if_neg (by simp [Z])]; simp [Z]
theorem Z_set1 (o o1 o' : O) (h : n = 3 + Es.length) : (Z s rf R ++ (Es ++ (o :: o1 :: E))).set (n + 1) o' = Z s rf R ++ (Es ++ (o :: o' :: E)) := by
  subst h
  have : 3 + Es.length - 2 - Es.length = 1 := by omega
  rw [List.set_append, if_neg (by simp [Z]; omega)]; simp [Z]
  rw [List.set_append, if_neg (by omega), this]; rfl
theorem Z_put (rf' : List Nat) (R' : List (List V)) (k : Nat) (h : k = R'.length) : ((Z s rf R ++ E).set 2 (.mem false rf' R')).set 0 (.mem false [1, 2] [[.own 1 4 0 s.length s.length, .own 2 1 0 k k]]) = Z s rf' R' ++ E := by subst h; rfl
@[simp] theorem Z_s2 (o : O) : ((Z s rf R ++ E).set 2 o)[2]? = some o := rfl
@[simp] theorem Z_0 : (Z s rf R ++ E)[0]? = some (.mem false [1, 2] [[.own 1 4 0 s.length s.length, .own 2 1 0 R.length R.length]]) := rfl
@[simp] theorem Z_1 : (Z s rf R ++ E)[1]? = some (.mem false [] (s.map Dom.row)) := rfl
@[simp] theorem Z_2 : (Z s rf R ++ E)[2]? = some (.mem false rf R) := rfl
@[simp] theorem Z_0' (h) : (Z s rf R ++ E)[0]'h = .mem false [1, 2] [[.own 1 4 0 s.length s.length, .own 2 1 0 R.length R.length]] := rfl
@[simp] theorem Z_1' (h) : (Z s rf R ++ E)[1]'h = .mem false [] (s.map Dom.row) := rfl
@[simp] theorem Z_2' (h) : (Z s rf R ++ E)[2]'h = .mem false rf R := rfl
@[simp] theorem Z_len : (Z s rf R).length = 3 := rfl
end

/-- Mark, where the marks lie open. -/
theorem mark_open {s : List Dom} {rf : List Nat} {R : List (List V)} {Es : Heap} (hs : s.length ≤ 64) (hR : R.length ≤ 1000000) :
    DC Tryz.prog dom_Store_Mark.id [.ptr 0 1 0 0] (Z s rf R ++ Es) (fun r H => r = V.i R.length ∧ ∃ rf' E, H = Z s rf' (R ++ [[.own (3 + Es.length) 4 0 s.length s.length]]) ++ (Es ++ (.mem false [] (s.map Dom.row) :: E))) := by
  refine DC.of dom_Store_Mark.ok (by simp) ?_
  unfold dom_Store_Mark.ir
  refine vc_cut (fun st => gt st.sl 0 = .ptr 0 1 0 0 ∧ st.hp = Z s rf R ++ Es) (by simp) ?_
  rintro ⟨sl, hp, bs⟩ ⟨h0, rfl⟩
  obtain ⟨n, hn⟩ : ∃ n, n = 3 + Es.length := ⟨_, rfl⟩
  refine vc_cut (fun st => gt st.sl 0 = .ptr 0 1 0 0 ∧ gt st.sl 3 = .own n 4 0 s.length s.length ∧ st.hp = Z s rf R ++ (Es ++ [.mem false [] (List.replicate s.length [V.i 0, V.i 0, V.w 0, V.w 0])])) ?_ ?_
  · have g := Z_at (s := s) (rf := rf) (R := R) (Es := Es) (E := []) .res hn
    have g2 := fun o' => Z_set (s := s) (rf := rf) (R := R) (Es := Es) (E := []) .res o' hn
    rw [hn] at g g2
    simp [h0, hn, g, g2]
    exact ⟨(List.getElem?_eq_some_iff.1 g).2, by omega⟩
  clear h0
  rintro ⟨sl, hp, bs⟩ ⟨h0, h3, rfl⟩
  refine vc_cut (fun st => gt st.sl 0 = .ptr 0 1 0 0 ∧ gt st.sl 3 = .own n 4 0 s.length s.length ∧ st.hp = Z s rf R ++ (Es ++ [.mem false [] (s.map Dom.row)])) ?_ ?_
  · have g := Z_at (s := s) (rf := rf) (R := R) (Es := Es) (E := []) (.mem false [] (List.replicate s.length [V.i 0, V.i 0, V.w 0, V.w 0])) hn
    have g2 := fun o' => Z_set (s := s) (rf := rf) (R := R) (Es := Es) (E := []) (.mem false [] (List.replicate s.length [V.i 0, V.i 0, V.w 0, V.w 0])) o' hn
    simp [h0, h3, g, g2]
    exact List.take_of_length_le (by simp)
  clear h0 h3
  rintro ⟨sl, hp, bs⟩ ⟨h0, h3, rfl⟩
  refine vc_cut (fun st => gt st.sl 0 = .ptr 0 1 0 0 ∧ ∃ rf' E, st.hp = Z s rf' (R ++ [[.own (3 + Es.length) 4 0 s.length s.length]]) ++ (Es ++ (.mem false [] (s.map Dom.row) :: E))) ?_ ?_
  · have k1 : (Z s rf R ++ (Es ++ (O.mem false [] (s.map Dom.row) :: [O.res, O.res])))[n + 1]? = some O.res := Z_at1 _ _ hn
    have k2 : (Z s rf R ++ (Es ++ (O.mem false [] (s.map Dom.row) :: [O.res, O.res])))[n]? = some (O.mem false [] (s.map Dom.row)) := Z_at _ hn
    have hl : (Z s rf R ++ (Es ++ [O.mem false [] (s.map Dom.row)])).length = n + 1 := by simp [hn]; omega
    have k3 := fun o' => Z_set1 (s := s) (rf := rf) (R := R) (Es := Es) (E := [O.res]) (O.mem false [] (s.map Dom.row)) O.res o' hn
    have k4 := fun o' => Z_at1 (s := s) (rf := rf) (R := R) (Es := Es) (E := [O.res]) (O.mem false [] (s.map Dom.row)) o' hn
    simp [h0, h3, hl, k1, k2, k3, k4]
    rw [Z_put _ _ _ (by simp)]
    refine ⟨by omega, (if n ∈ rf then rf else rf ++ [n]), [.mem false [n] [[V.own n 4 0 s.length s.length]], .res], ?_⟩
    rw [hn]
  clear h0 h3
  rintro ⟨sl, hp, bs⟩ ⟨h0, rf', E, rfl⟩
  simp [h0, dom_Store_Mark.rs]
  exact ⟨by rw [wrap64] <;> omega, rf', E, rfl⟩
end Go.Abs.G

namespace Go.Abs
theorem DC.post' {P : Program} {f : FuncId} {xs : List V} {H : Heap} {Q Q' : V → Heap → Prop} (h : DC P f xs H Q)
    (hq : ∀ x H1, Q x H1 → ∀ (w : World) (β : Nat → Hd) (F : Nat → Prop) (vs : Array Value), HOK w.heap H1 β F → RVs (cx w.heap H1 β F) vs (x :: xs) → ∃ β' H2, Adv F w H1 β w H2 β' ∧ Q' x H2) : DC P f xs H Q' := fun w β F vs hk hr =>
  (h w β F vs hk hr).mono fun e w' ⟨r, x, H', β2, h1, h2, h3, h4⟩ => by
    obtain ⟨β3, H2, a, hQ⟩ := hq x H' h4 w' β2 F _ h2.hok (RVs.cons' h3 (hr.mono h2.le))
    exact ⟨r, x, H2, β3, h1, h2.trans a, h3.mono a.le, hQ⟩
end Go.Abs
namespace Go.Abs.G
open Go.Proofs
set_option linter.unusedVariables false
set_option linter.unusedSimpArgs false
attribute [local simp] I.vc

def domCe (d : Dom) : List Ce := d.row.map .v
def mT (ms : List (List Dom)) : List (List Ce) := ms.map fun L => [.n 4 (L.map domCe)]
theorem domCe_flat (L : List Dom) : L.map domCe = flatC (L.map Dom.row) := by simp [domCe, flatC, Function.comp_def]
theorem domCe_ids : ∀ L : List Dom, Ce.idsR (L.map domCe) = []
  | [] => rfl
  | d :: L => by
    have : Ce.idsL (domCe d) = [] := rfl
    simp [Ce.idsR, this, domCe_ids L]
theorem mT_ids : ∀ ms : List (List Dom), Ce.idsR (mT ms) = []
  | [] => rfl
  | L :: ms => by
    have h := mT_ids ms
    unfold mT at h
    simp [mT, Ce.idsR, Ce.idsL, Ce.ids, domCe_ids, h]
def kidsOf (ms : List (List Dom)) : List Kid := kids 4 3 (ms.map fun L => L.map domCe)
def rowsOf' (ms : List (List Dom)) : List (List V) := (kidsOf ms).map fun c => [.own c.id c.es 0 c.L.length c.L.length]
def objsOf (ms : List (List Dom)) : Heap := ms.map fun L => .tree [] (L.map domCe)
theorem kids_len (es : Nat) : ∀ (n : Nat) (l : List (List (List Ce))), (kids es n l).length = l.length
  | _, [] => rfl
  | n, L :: l => by simp [kids, kids_len es (n + 1) l]
theorem rowsOf_len (ms : List (List Dom)) : (rowsOf' ms).length = ms.length := by simp [rowsOf', kidsOf, kids_len]

theorem step_open {xs : List V} {s : List Dom} {ms : List (List Dom)} : Step xs (U s (mT ms)) (Z s (List.range' 3 ms.length) (rowsOf' ms) ++ objsOf ms) := fun w β F vs hk hr => by
  obtain ⟨β', a⟩ := adv_open (id := 2) (es := 4) (refs := []) (todo := ms.map fun L => L.map domCe) hk (by simp [domCe_ids]) (by simp [U, mT])
  refine ⟨β', ?_⟩
  have e : (U s (mT ms)).set 2 (.mem false (List.range' (U s (mT ms)).length (ms.map fun L => L.map domCe).length) ((kids 4 (U s (mT ms)).length (ms.map fun L => L.map domCe)).map fun c => [.own c.id c.es 0 c.L.length c.L.length])) ++ (ms.map fun L => L.map domCe).map (fun L => O.tree [] L) = Z s (List.range' 3 ms.length) (rowsOf' ms) ++ objsOf ms := by
    simp [U, Z, rowsOf', kidsOf, objsOf, mT, kids_len, Function.comp_def]
  rw [e] at a
  exact a
end Go.Abs.G

namespace Go.Abs.G
open Go.Proofs
set_option linter.unusedVariables false
set_option linter.unusedSimpArgs false
attribute [local simp] I.vc

theorem kids_mem (es : Nat) : ∀ (n : Nat) (l : List (List (List Ce))) (c : Kid), c ∈ kids es n l → ∃ i, l[i]? = some c.L ∧ c.id = n + i ∧ c.refs = [] ∧ c.es = es
  | _, [], c, h => by simp [kids] at h
  | n, L :: l, c, h => by
    simp only [kids, List.mem_cons] at h
    rcases h with rfl | h
    · exact ⟨0, rfl, rfl, rfl, rfl⟩
    · obtain ⟨i, h1, h2, h3, h4⟩ := kids_mem es (n + 1) l c h
      exact ⟨i + 1, by simpa using h1, by omega, h3, h4⟩
theorem kids_append (es : Nat) (L : List (List Ce)) : ∀ (n : Nat) (l : List (List (List Ce))), kids es n (l ++ [L]) = kids es n l ++ [⟨n + l.length, es, [], L⟩]
  | n, [] => rfl
  | n, M :: l => by
    simp only [List.cons_append, kids, kids_append es L (n + 1) l, List.length_cons]
    have : n + 1 + l.length = n + (l.length + 1) := by omega
    rw [this]
theorem rowsOf_snoc (ms : List (List Dom)) (s : List Dom) : rowsOf' (ms ++ [s]) = rowsOf' ms ++ [[.own (3 + ms.length) 4 0 s.length s.length]] := by
  simp [rowsOf', kidsOf, kids_append]
theorem objsOf_snoc (ms : List (List Dom)) (s : List Dom) : objsOf (ms ++ [s]) = objsOf ms ++ [.tree [] (s.map domCe)] := by simp [objsOf]
theorem rows_flat (ms : List (List Dom)) : flatC (rowsOf' ms) = (kidsOf ms).map Kid.own := by simp [flatC, rowsOf', Kid.own, Function.comp_def]

theorem lo_arg {w : World} {β : Nat → Hd} {F : Nat → Prop} {H : Heap} {vs : Array Value} {xs : List V} {i id n : Nat} (hr : RVs (cx w.heap H β F) vs xs) (hi : xs[i]? = some (.ptr id n 0 0)) (hd : hdOf H β id = some ((β id).wt n)) : (β id).lo = 0 := by
  have hlt := lt_of_get hi
  obtain ⟨v, hv⟩ : ∃ v, vs[i]? = some v := ⟨vs[i]'(by rw [hr.1]; exact hlt), Array.getElem?_eq_getElem _⟩
  exact lo_of_ptr (h := (β id).wt n) (hr.2 i v _ hv hi) hd rfl

theorem close_marks {w : World} {β : Nat → Hd} {F : Nat → Prop} {vs : Array Value} {xs : List V} {s : List Dom} {ms : List (List Dom)} {rf : List Nat} {E : Heap} {q : Nat}
    (hk : HOK w.heap (Z s rf (rowsOf' ms) ++ (objsOf ms ++ E)) β F) (hr : RVs (cx w.heap (Z s rf (rowsOf' ms) ++ (objsOf ms ++ E)) β F) vs xs) (hq : xs[q]? = some (.ptr 0 1 0 0)) :
    ∃ β' H2, Adv F w (Z s rf (rowsOf' ms) ++ (objsOf ms ++ E)) β w H2 β' ∧ (H2.take 3).map (limO 3) = U s (mT ms) := by
  have l0 := lo_arg hr hq rfl
  have l2 : (β 2).lo = 0 := lo_of_cell (p := 0) (c := 2) (i := 0) (j := 1) hk (Z_0) l0 rfl rfl rfl
  obtain ⟨β1, a1⟩ := adv_toTree hk Z_2 l2
  rw [rows_flat] at a1
  have g1 : ((Z s rf (rowsOf' ms) ++ (objsOf ms ++ E)).set 2 (.tree rf ((kidsOf ms).map Kid.own)))[2]? = some (.tree rf ((kidsOf ms).map Kid.own)) := rfl
  obtain ⟨β2, H2, rf2, a2, b1, b2, b3⟩ := adv_packAll (id := 2) (kidsOf ms) [] _ β1 rf a1.hok g1 (fun c hc => by
    obtain ⟨i, h1, h2, h3, h4⟩ := kids_mem 4 3 _ c hc
    refine ⟨?_, by omega⟩
    have hi := lt_of_get h1
    rw [List.length_map] at hi
    rw [h2, getElem?_set_ne' (by omega), List.getElem?_append_right (by simp), Z_len]
    have : 3 + i - 3 = i := by omega
    rw [this, List.getElem?_append_left (by simpa [objsOf] using hi), h3]
    rw [List.getElem?_map] at h1
    simp only [objsOf, List.getElem?_map]
    cases hm : ms[i]? with
    | none => rw [hm] at h1; cases h1
    | some L => rw [hm] at h1; simp at h1; simp [h1]) (by unfold kidsOf; rw [kids_ids]; exact List.nodup_range')
  have hn : ([] ++ kidsOf ms).map Kid.nest = mT ms := by simp [kidsOf, kids_L, mT, Function.comp_def]
  rw [hn] at b1
  obtain ⟨β3, a3⟩ := adv_refsT (refs' := []) a2.hok b1 (by rw [mT_ids]; simp)
  refine ⟨β3, _, a1.trans (a2.trans a3), ?_⟩
  have hnot : ∀ j, j < 3 → j ∉ (kidsOf ms).map Kid.id := fun j hj h => by
    unfold kidsOf at h; rw [kids_ids, List.mem_range'_1] at h; omega
  have c0 : H2[0]? = some (.mem false [1, 2] [[.own 1 4 0 s.length s.length, .own 2 1 0 ms.length ms.length]]) := by
    rw [b3 0 (by omega) (hnot 0 (by omega)), getElem?_set_ne' (by omega)]
    rw [← rowsOf_len ms]; rfl
  have c1 : H2[1]? = some (.mem false [] (s.map Dom.row)) := by
    rw [b3 1 (by omega) (hnot 1 (by omega)), getElem?_set_ne' (by omega)]; rfl
  have hl : 3 ≤ H2.length := by have := lt_of_get b1; omega
  have hTl : (mT ms).length = ms.length := by simp [mT]
  match H2, c0, c1, b1, hl with
  | x :: y :: z :: tl, c0, c1, b1, _ =>
    simp at c0 c1
    subst c0 c1
    simp [U, limO, O.refs, hTl]
end Go.Abs.G

namespace Go.Abs.G
open Go.Proofs
set_option linter.unusedVariables false
set_option linter.unusedSimpArgs false
attribute [local simp] I.vc

theorem mark_spec {s : List Dom} {ms : List (List Dom)} (hs : s.length ≤ 64) (hm : ms.length ≤ 1000000) :
    DC Tryz.prog dom_Store_Mark.id [.ptr 0 1 0 0] (U s (mT ms)) (fun r H => r = V.i ms.length ∧ H = U s (mT (ms ++ [s]))) := by
  have h1 := mark_open (rf := List.range' 3 ms.length) (R := rowsOf' ms) (Es := objsOf ms) hs (by rw [rowsOf_len]; exact hm)
  have hol : (objsOf ms).length = ms.length := by simp [objsOf]
  rw [rowsOf_len, hol, ← rowsOf_snoc] at h1
  refine DC.trim (Q := fun r H => r = V.i ms.length ∧ (H.take 3).map (limO 3) = U s (mT (ms ++ [s]))) ?_ ?_
  rotate_left
  · rintro r H ⟨rfl, h⟩
    exact ⟨3, by simp, by simp [V.ids], rfl, h⟩
  refine DC.pre step_open (DC.post' h1 ?_)
  rintro x H1 ⟨rfl, rf', E, rfl⟩ w β F vs hk hr
  have l0 := lo_arg (i := 1) hr rfl rfl
  have l2 : (β 2).lo = 0 := lo_of_cell (p := 0) (c := 2) (i := 0) (j := 1) hk Z_0 l0 rfl rfl rfl
  have gl : (Z s rf' (rowsOf' (ms ++ [s])) ++ (objsOf ms ++ (O.mem false [] (s.map Dom.row) :: E)))[3 + ms.length]? = some (O.mem false [] (s.map Dom.row)) := Z_at _ (by rw [hol])
  have ll : (β (3 + ms.length)).lo = 0 := lo_of_cell (p := 2) (c := 3 + ms.length) (i := ms.length) (j := 0) (row := [.own (3 + ms.length) 4 0 s.length s.length]) hk Z_2 l2 (by
    rw [rowsOf_snoc, List.getElem?_append_right (by rw [rowsOf_len]; exact Nat.le_refl _), rowsOf_len]; simp) rfl (by unfold hdOf; rw [gl]; simp)
  obtain ⟨β1, a1⟩ := adv_toTree hk gl ll
  rw [Z_set _ _ (by rw [hol]), ← domCe_flat] at a1
  have e : objsOf ms ++ (O.tree [] (s.map domCe) :: E) = objsOf (ms ++ [s]) ++ E := by rw [objsOf_snoc]; simp
  rw [e] at a1
  obtain ⟨β2, H2, a2, hH⟩ := close_marks (q := 1) a1.hok (hr.mono a1.le) rfl
  exact ⟨β2, H2, a1.trans a2, rfl, hH⟩
end Go.Abs.G

namespace Go.Abs.G
open Go.Proofs
set_option linter.unusedVariables false
set_option linter.unusedSimpArgs false
attribute [local simp] I.vc

/-- A store as one thing. -/
def St1 (s : List Dom) (T : List (List Ce)) : O := .tree [] [[.n 4 (s.map domCe), .n 1 T]]

/-- The struct first; then it holds the evidence for its doms. -/
theorem lo_of_tree {w : World} {F : Nat → Prop} {β : Nat → Hd} {H : Heap} {p c i j es k : Nat} {refs : List Nat} {rows : List (List Ce)} {row : List Ce} (hk : HOK w.heap H β F) (hp : H[p]? = some (.tree refs rows))
    (hi : rows[i]? = some row) (hj : row[j]? = some (.v (.own c es 0 k k))) (hc : hdOf H β c = some ((β c).wt k)) : (β c).lo = 0 := by
  rcases hk.ro p _ hp with hr | ⟨q1, q2, q3, q4, q5⟩
  · rw [hr.2.1] at hi; simp at hi
  · obtain ⟨u, Sx, hx, _⟩ := q4.cell hi hj
    have := hx.val
    cases this with
    | own hl hh => exact Nat.le_zero.1 ((hh _ hc).2 rfl).1

theorem close_store {w : World} {β : Nat → Hd} {F : Nat → Prop} {H : Heap} {s : List Dom} {T : List (List Ce)} {rf rb : List Nat} {a b : Nat} (hk : HOK w.heap H β F)
    (h0 : H[0]? = some (.mem false rf [[.own a 4 0 s.length s.length, .own b 1 0 T.length T.length]])) (ha : H[a]? = some (.mem false [] (s.map Dom.row))) (hb : H[b]? = some (.tree rb T)) (hT : Ce.idsR T = [])
    (na : a ≠ 0) (nb : b ≠ 0) (nab : a ≠ b) (hlo : (β 0).lo = 0) : ∃ β' H2, Adv F w H β w H2 β' ∧ H2[0]? = some (St1 s T) ∧ H2.length = H.length := by
  obtain ⟨β1, a1⟩ := adv_toTree hk h0 hlo
  generalize hP : O.tree rf (flatC [[.own a 4 0 s.length s.length, .own b 1 0 T.length T.length]]) = P at a1
  have p1 : (H.set 0 P)[0]? = some (.tree rf [[.v (.own a 4 0 s.length s.length), .v (.own b 1 0 T.length T.length)]]) := by rw [get_set h0, ← hP]; rfl
  have q1 : (H.set 0 P)[a]? = some (.mem false [] (s.map Dom.row)) := by rw [getElem?_set_ne' na]; exact ha
  have r1 : (H.set 0 P)[b]? = some (.tree rb T) := by rw [getElem?_set_ne' nb]; exact hb
  have la : (β1 a).lo = 0 := lo_of_tree (i := 0) (j := 0) a1.hok p1 rfl rfl (by unfold hdOf; rw [q1]; simp)
  have hl1 : (H.set 0 P).length = H.length := List.length_set
  generalize H.set 0 P = H1 at a1 p1 q1 r1 hl1
  obtain ⟨β2, a2⟩ := adv_toTree a1.hok q1 la
  rw [← domCe_flat] at a2
  have p2 : (H1.set a (.tree [] (s.map domCe)))[0]? = some (.tree rf [[.v (.own a 4 0 s.length s.length), .v (.own b 1 0 T.length T.length)]]) := by rw [getElem?_set_ne' (Ne.symm na)]; exact p1
  have q2 : (H1.set a (.tree [] (s.map domCe)))[a]? = some (.tree [] (s.map domCe)) := get_set q1
  have r2 : (H1.set a (.tree [] (s.map domCe)))[b]? = some (.tree rb T) := by rw [getElem?_set_ne' (Ne.symm nab)]; exact r1
  have hl2 : (H1.set a (.tree [] (s.map domCe))).length = H.length := by rw [List.length_set]; exact hl1
  generalize H1.set a (.tree [] (s.map domCe)) = H2 at a2 p2 q2 r2 hl2
  obtain ⟨β3, a3⟩ := adv_pack (i := 0) (j := 0) a2.hok p2 q2 (Ne.symm na) rfl rfl (by simp)
  generalize hP3 : O.tree (rf ++ []) _ = P3 at a3
  have p3 : ((H2.set a O.dead).set 0 P3)[0]? = some (.tree (rf ++ []) [[.n 4 (s.map domCe), .v (.own b 1 0 T.length T.length)]]) := by rw [get_set (x := _) (by rw [getElem?_set_ne' (Ne.symm na)]; exact p2), ← hP3]; rfl
  have r3 : ((H2.set a O.dead).set 0 P3)[b]? = some (.tree rb T) := by rw [getElem?_set_ne' nb, getElem?_set_ne' (Ne.symm nab)]; exact r2
  have hl3 : ((H2.set a O.dead).set 0 P3).length = H.length := by rw [List.length_set, List.length_set]; exact hl2
  generalize (H2.set a O.dead).set 0 P3 = H3 at a3 p3 r3 hl3
  obtain ⟨β4, a4⟩ := adv_pack (i := 0) (j := 1) a3.hok p3 r3 (Ne.symm nb) rfl rfl rfl
  generalize hP4 : O.tree (rf ++ [] ++ rb) _ = P4 at a4
  have p4 : ((H3.set b O.dead).set 0 P4)[0]? = some (.tree (rf ++ [] ++ rb) [[.n 4 (s.map domCe), .n 1 T]]) := by rw [get_set (x := _) (by rw [getElem?_set_ne' (Ne.symm nb)]; exact p3), ← hP4]; rfl
  have hl4 : ((H3.set b O.dead).set 0 P4).length = H.length := by rw [List.length_set, List.length_set]; exact hl3
  generalize (H3.set b O.dead).set 0 P4 = H4 at a4 p4 hl4
  obtain ⟨β5, a5⟩ := adv_refsT (refs' := []) a4.hok p4 (by simp [Ce.idsR, Ce.idsL, Ce.ids, domCe_ids, hT])
  exact ⟨β5, _, a1.trans (a2.trans (a3.trans (a4.trans a5))), get_set p4, by rw [List.length_set]; exact hl4⟩
end Go.Abs.G

namespace Go.Abs.G
open Go.Proofs
set_option linter.unusedVariables false
set_option linter.unusedSimpArgs false
attribute [local simp] I.vc

theorem open_store {xs : List V} {s : List Dom} {T : List (List Ce)} (hT : Ce.idsR T = []) : Step xs [St1 s T] (U s T) := fun w β F vs hk hr => by
  obtain ⟨β1, a1⟩ := adv_unpack (id := 0) (i := 0) (j := 0) hk rfl rfl rfl
  replace a1 : Adv F w [St1 s T] β w [.tree [1] [[.v (.own 1 4 0 (s.map domCe).length (s.map domCe).length), .n 1 T]], .tree [] (s.map domCe)] β1 := a1
  rw [List.length_map] at a1
  obtain ⟨β2, a2⟩ := adv_unpack (id := 0) (i := 0) (j := 1) a1.hok rfl rfl rfl
  replace a2 : Adv F w [.tree [1] [[.v (.own 1 4 0 s.length s.length), .n 1 T]], .tree [] (s.map domCe)] β1 w [.tree [2, 1] [[.v (.own 1 4 0 s.length s.length), .v (.own 2 1 0 T.length T.length)]], .tree [] (s.map domCe), .tree [1] T] β2 := a2
  obtain ⟨β3, a3⟩ := adv_refsT (id := 2) (refs' := []) a2.hok rfl (by rw [hT]; simp)
  obtain ⟨β4, a4⟩ := adv_toMem (id := 1) (refs := []) (rows := s.map Dom.row) a3.hok (by rw [← domCe_flat]; rfl)
  obtain ⟨β5, a5⟩ := adv_refsT (id := 0) (refs' := [1, 2]) a4.hok rfl (by simp [Ce.idsR, Ce.idsL, Ce.ids, V.ids])
  obtain ⟨β6, a6⟩ := adv_toMem (id := 0) (refs := [1, 2]) (rows := [[.own 1 4 0 s.length s.length, .own 2 1 0 T.length T.length]]) a5.hok rfl
  exact ⟨β6, a1.trans (a2.trans (a3.trans (a4.trans (a5.trans a6))))⟩

/-- A contract on a store that lies open, as one on a store as one thing. -/
theorem DC.packed {P : Program} {f : FuncId} {ys : List V} {s : List Dom} {T : List (List Ce)} {Q : V → Prop} {S' : List Dom} {T' : List (List Ce)} (hT : Ce.idsR T = []) (hT' : Ce.idsR T' = [])
    (h : DC P f (.ptr 0 1 0 0 :: ys) (U s T) fun r H => Q r ∧ H = U S' T') (hq : ∀ r, Q r → r.ids = []) : DC P f (.ptr 0 1 0 0 :: ys) [St1 s T] fun r H => Q r ∧ H = [St1 S' T'] := by
  refine DC.trim (Q := fun r H => Q r ∧ H[0]? = some (St1 S' T')) ?_ ?_
  rotate_left
  · rintro r H ⟨h1, h2⟩
    refine ⟨1, by simp, by rw [hq r h1]; simp, h1, ?_⟩
    match H, h2 with
    | x :: tl, h2 =>
      simp at h2
      subst h2
      simp [St1, limO, O.refs]
  refine DC.pre (open_store hT) (DC.post' h ?_)
  rintro x H1 ⟨h1, rfl⟩ w β F vs hk hr
  obtain ⟨β', H2, a, h2, _⟩ := close_store (a := 1) (b := 2) (rb := []) hk U_0 U_1 U_2 hT' (by simp) (by simp) (by simp) (lo_arg (i := 1) hr rfl rfl)
  exact ⟨β', H2, a, h1, h2⟩
end Go.Abs.G

/- The reference's store: two owned lists whose rows are only read. -/
namespace Go.Abs.G
open Go.Proofs
set_option linter.unusedVariables false
set_option linter.unusedSimpArgs false
attribute [local simp] I.vc

def flR (D : List (List V)) : Prop := (∀ f, D.map (V.renL f) = D) ∧ Ce.idsR (flatC D) = []

def RS (D M : List (List V)) : Heap := [.mem false [1, 2] [[.own 1 1 0 D.length D.length, .own 2 1 0 M.length M.length]], .mem false [] D, .mem false [] M]
def R1 (D M : List (List V)) : O := .tree [] [[.n 1 (flatC D), .n 1 (flatC M)]]

theorem own_of_tree {w : World} {F : Nat → Prop} {β : Nat → Hd} {H : Heap} {p c i j es k : Nat} {refs refs2 : List Nat} {rows : List (List Ce)} {row : List Ce} {D : List (List V)} (hk : HOK w.heap H β F) (hp : H[p]? = some (.tree refs rows))
    (hi : rows[i]? = some row) (hj : row[j]? = some (.v (.own c es 0 k k))) (hc : H[c]? = some (.mem false refs2 D)) (hD : D.length = k) : (β c).lo = 0 :=
  lo_of_tree (i := i) (j := j) hk hp hi hj (by unfold hdOf; rw [hc]; simp [hD])

theorem close_R {w : World} {β : Nat → Hd} {F : Nat → Prop} {H : Heap} {D M : List (List V)} {rf : List Nat} {p a b : Nat} (hk : HOK w.heap H β F)
    (h0 : H[p]? = some (.mem false rf [[.own a 1 0 D.length D.length, .own b 1 0 M.length M.length]])) (ha : H[a]? = some (.mem false [] D)) (hb : H[b]? = some (.mem false [] M)) (hD : flR D) (hM : flR M)
    (na : a ≠ p) (nb : b ≠ p) (nab : a ≠ b) (hlo : (β p).lo = 0) : ∃ β' H2, Adv F w H β w H2 β' ∧ H2[p]? = some (R1 D M) ∧ H2.length = H.length ∧ ∀ q, q ≠ p → q ≠ a → q ≠ b → H2[q]? = H[q]? := by
  obtain ⟨β1, a1⟩ := adv_toTree hk h0 hlo
  generalize hP : O.tree rf (flatC [[.own a 1 0 D.length D.length, .own b 1 0 M.length M.length]]) = P at a1
  have p1 : (H.set p P)[p]? = some (.tree rf [[.v (.own a 1 0 D.length D.length), .v (.own b 1 0 M.length M.length)]]) := by rw [get_set h0, ← hP]; rfl
  have q1 : (H.set p P)[a]? = some (.mem false [] D) := by rw [getElem?_set_ne' na]; exact ha
  have r1 : (H.set p P)[b]? = some (.mem false [] M) := by rw [getElem?_set_ne' nb]; exact hb
  have la : (β1 a).lo = 0 := own_of_tree (i := 0) (j := 0) a1.hok p1 rfl rfl q1 rfl
  have hl1 : (H.set p P).length = H.length := List.length_set
  have s1 : ∀ q, q ≠ p → q ≠ a → q ≠ b → (H.set p P)[q]? = H[q]? := fun q h _ _ => getElem?_set_ne' h
  generalize H.set p P = H1 at a1 p1 q1 r1 hl1 s1
  obtain ⟨β2, a2⟩ := adv_toTree a1.hok q1 la
  have p2 : (H1.set a (.tree [] (flatC D)))[p]? = some (.tree rf [[.v (.own a 1 0 D.length D.length), .v (.own b 1 0 M.length M.length)]]) := by rw [getElem?_set_ne' (Ne.symm na)]; exact p1
  have q2 : (H1.set a (.tree [] (flatC D)))[a]? = some (.tree [] (flatC D)) := get_set q1
  have r2 : (H1.set a (.tree [] (flatC D)))[b]? = some (.mem false [] M) := by rw [getElem?_set_ne' (Ne.symm nab)]; exact r1
  have hl2 : (H1.set a (.tree [] (flatC D))).length = H.length := by rw [List.length_set]; exact hl1
  have s2 : ∀ q, q ≠ p → q ≠ a → q ≠ b → (H1.set a (.tree [] (flatC D)))[q]? = H[q]? := fun q h h' h2 => by rw [getElem?_set_ne' h']; exact s1 q h h' h2
  generalize H1.set a (.tree [] (flatC D)) = H2 at a2 p2 q2 r2 hl2 s2
  have lb : (β2 b).lo = 0 := own_of_tree (i := 0) (j := 1) a2.hok p2 rfl rfl r2 rfl
  obtain ⟨β2', a2'⟩ := adv_toTree a2.hok r2 lb
  have p2' : (H2.set b (.tree [] (flatC M)))[p]? = some (.tree rf [[.v (.own a 1 0 D.length D.length), .v (.own b 1 0 M.length M.length)]]) := by rw [getElem?_set_ne' (Ne.symm nb)]; exact p2
  have q2' : (H2.set b (.tree [] (flatC M)))[a]? = some (.tree [] (flatC D)) := by rw [getElem?_set_ne' nab]; exact q2
  have r2' : (H2.set b (.tree [] (flatC M)))[b]? = some (.tree [] (flatC M)) := get_set r2
  have hl2' : (H2.set b (.tree [] (flatC M))).length = H.length := by rw [List.length_set]; exact hl2
  have s2' : ∀ q, q ≠ p → q ≠ a → q ≠ b → (H2.set b (.tree [] (flatC M)))[q]? = H[q]? := fun q h h' h2 => by rw [getElem?_set_ne' h2]; exact s2 q h h' h2
  generalize H2.set b (.tree [] (flatC M)) = H2' at a2' p2' q2' r2' hl2' s2'
  obtain ⟨β3, a3⟩ := adv_pack (i := 0) (j := 0) a2'.hok p2' q2' (Ne.symm na) rfl rfl (by simp [flatC])
  generalize hP3 : O.tree (rf ++ []) _ = P3 at a3
  have p3 : ((H2'.set a O.dead).set p P3)[p]? = some (.tree (rf ++ []) [[.n 1 (flatC D), .v (.own b 1 0 M.length M.length)]]) := by rw [get_set (x := _) (by rw [getElem?_set_ne' (Ne.symm na)]; exact p2'), ← hP3]; rfl
  have r3 : ((H2'.set a O.dead).set p P3)[b]? = some (.tree [] (flatC M)) := by rw [getElem?_set_ne' nb, getElem?_set_ne' (Ne.symm nab)]; exact r2'
  have hl3 : ((H2'.set a O.dead).set p P3).length = H.length := by rw [List.length_set, List.length_set]; exact hl2'
  have s3 : ∀ q, q ≠ p → q ≠ a → q ≠ b → ((H2'.set a O.dead).set p P3)[q]? = H[q]? := fun q h h' h2 => by rw [getElem?_set_ne' h, getElem?_set_ne' h']; exact s2' q h h' h2
  generalize (H2'.set a O.dead).set p P3 = H3 at a3 p3 r3 hl3 s3
  obtain ⟨β4, a4⟩ := adv_pack (i := 0) (j := 1) a3.hok p3 r3 (Ne.symm nb) rfl rfl (by simp [flatC])
  generalize hP4 : O.tree (rf ++ [] ++ []) _ = P4 at a4
  have p4 : ((H3.set b O.dead).set p P4)[p]? = some (.tree (rf ++ [] ++ []) [[.n 1 (flatC D), .n 1 (flatC M)]]) := by rw [get_set (x := _) (by rw [getElem?_set_ne' (Ne.symm nb)]; exact p3), ← hP4]; rfl
  have hl4 : ((H3.set b O.dead).set p P4).length = H.length := by rw [List.length_set, List.length_set]; exact hl3
  have s4 : ∀ q, q ≠ p → q ≠ a → q ≠ b → ((H3.set b O.dead).set p P4)[q]? = H[q]? := fun q h h' h2 => by rw [getElem?_set_ne' h, getElem?_set_ne' h2]; exact s3 q h h' h2
  generalize (H3.set b O.dead).set p P4 = H4 at a4 p4 hl4 s4
  obtain ⟨β5, a5⟩ := adv_refsT (refs' := []) a4.hok p4 (by simp [Ce.idsR, Ce.idsL, Ce.ids, hD.2, hM.2])
  exact ⟨β5, _, a1.trans (a2.trans (a2'.trans (a3.trans (a4.trans a5)))), get_set p4, by rw [List.length_set]; exact hl4, fun q h h' h2 => by rw [getElem?_set_ne' h]; exact s4 q h h' h2⟩

theorem open_R {xs : List V} {D M : List (List V)} (hD : flR D) (hM : flR M) : Step xs [R1 D M] (RS D M) := fun w β F vs hk hr => by
  obtain ⟨β1, a1⟩ := adv_unpack (id := 0) (i := 0) (j := 0) hk rfl rfl rfl
  replace a1 : Adv F w [R1 D M] β w [.tree [1] [[.v (.own 1 1 0 (flatC D).length (flatC D).length), .n 1 (flatC M)]], .tree [] (flatC D)] β1 := a1
  rw [flatC_length] at a1
  obtain ⟨β2, a2⟩ := adv_unpack (id := 0) (i := 0) (j := 1) a1.hok rfl rfl rfl
  replace a2 : Adv F w [.tree [1] [[.v (.own 1 1 0 D.length D.length), .n 1 (flatC M)]], .tree [] (flatC D)] β1 w [.tree [2, 1] [[.v (.own 1 1 0 D.length D.length), .v (.own 2 1 0 (flatC M).length (flatC M).length)]], .tree [] (flatC D), .tree [1] (flatC M)] β2 := a2
  rw [flatC_length] at a2
  obtain ⟨β3, a3⟩ := adv_refsT (id := 2) (refs' := []) a2.hok rfl (by rw [hM.2]; simp)
  obtain ⟨β3', a3'⟩ := adv_toMem (id := 2) (refs := []) (rows := M) a3.hok rfl
  obtain ⟨β4, a4⟩ := adv_toMem (id := 1) (refs := []) (rows := D) a3'.hok rfl
  obtain ⟨β5, a5⟩ := adv_refsT (id := 0) (refs' := [1, 2]) a4.hok rfl (by simp [Ce.idsR, Ce.idsL, Ce.ids, V.ids])
  obtain ⟨β6, a6⟩ := adv_toMem (id := 0) (refs := [1, 2]) (rows := [[.own 1 1 0 D.length D.length, .own 2 1 0 M.length M.length]]) a5.hok rfl
  exact ⟨β6, a1.trans (a2.trans (a3.trans (a3'.trans (a4.trans (a5.trans a6)))))⟩

theorem DC.packedR {P : Program} {f : FuncId} {ys : List V} {D M : List (List V)} {Q : V → Prop} {D' M' : List (List V)} (hD : flR D) (hM : flR M) (hD' : flR D') (hM' : flR M')
    (h : DC P f (.ptr 0 1 0 0 :: ys) (RS D M) fun r H => Q r ∧ H = RS D' M') (hq : ∀ r, Q r → r.ids = []) : DC P f (.ptr 0 1 0 0 :: ys) [R1 D M] fun r H => Q r ∧ H = [R1 D' M'] := by
  refine DC.trim (Q := fun r H => Q r ∧ H[0]? = some (R1 D' M')) ?_ ?_
  rotate_left
  · rintro r H ⟨h1, h2⟩
    refine ⟨1, by simp, by rw [hq r h1]; simp, h1, ?_⟩
    match H, h2 with
    | x :: tl, h2 =>
      simp at h2
      subst h2
      simp [R1, limO, O.refs]
  refine DC.pre (open_R hD hM) (DC.post' h ?_)
  rintro x H1 ⟨h1, rfl⟩ w β F vs hk hr
  obtain ⟨β', H2, a, h2, _⟩ := close_R (p := 0) (a := 1) (b := 2) hk rfl rfl rfl hD' hM' (by simp) (by simp) (by simp) (lo_arg (i := 1) hr rfl rfl)
  exact ⟨β', H2, a, h1, h2⟩

section
variable {D M D' M' : List (List V)} {E : Heap}
@[simp] theorem RS_len : (RS D M).length = 3 := rfl
@[simp] theorem RS_0 : (RS D M)[0]? = some (.mem false [1, 2] [[.own 1 1 0 D.length D.length, .own 2 1 0 M.length M.length]]) := rfl
@[simp] theorem RS_1 : (RS D M)[1]? = some (.mem false [] D) := rfl
@[simp] theorem RS_2 : (RS D M)[2]? = some (.mem false [] M) := rfl
@[simp] theorem RSE_0 : (RS D M ++ E)[0]? = some (.mem false [1, 2] [[.own 1 1 0 D.length D.length, .own 2 1 0 M.length M.length]]) := rfl
@[simp] theorem RSE_1 : (RS D M ++ E)[1]? = some (.mem false [] D) := rfl
@[simp] theorem RSE_2 : (RS D M ++ E)[2]? = some (.mem false [] M) := rfl
@[simp] theorem RSE_0' (h) : (RS D M ++ E)[0]'h = .mem false [1, 2] [[.own 1 1 0 D.length D.length, .own 2 1 0 M.length M.length]] := rfl
@[simp] theorem RSE_1' (h) : (RS D M ++ E)[1]'h = .mem false [] D := rfl
@[simp] theorem RSE_2' (h) : (RS D M ++ E)[2]'h = .mem false [] M := rfl
@[simp] theorem RS_0' (h) : (RS D M)[0]'h = .mem false [1, 2] [[.own 1 1 0 D.length D.length, .own 2 1 0 M.length M.length]] := rfl
@[simp] theorem RS_1' (h) : (RS D M)[1]'h = .mem false [] D := rfl
@[simp] theorem RS_2' (h) : (RS D M)[2]'h = .mem false [] M := rfl
@[simp] theorem RSE_3 (a : O) : (RS D M ++ (a :: E))[3]? = some a := rfl
@[simp] theorem RSE_3' (a : O) (h) : (RS D M ++ (a :: E))[3]'h = a := rfl
@[simp] theorem RSE_4 (a b : O) : (RS D M ++ (a :: b :: E))[4]? = some b := rfl
@[simp] theorem RSE_4' (a b : O) (h) : (RS D M ++ (a :: b :: E))[4]'h = b := rfl
@[simp] theorem RSE_5 (a b c : O) : (RS D M ++ (a :: b :: c :: E))[5]? = some c := rfl
@[simp] theorem RSE_5' (a b c : O) (h) : (RS D M ++ (a :: b :: c :: E))[5]'h = c := rfl
@[simp] theorem RSE_set3 (a o : O) : (RS D M ++ (a :: E)).set 3 o = RS D M ++ (o :: E) := rfl
@[simp] theorem RSE_set4 (a b o : O) : (RS D M ++ (a :: b :: E)).set 4 o = RS D M ++ (a :: o :: E) := rfl
@[simp] theorem RSE_set5 (a b c o : O) : (RS D M ++ (a :: b :: c :: E)).set 5 o = RS D M ++ (a :: b :: o :: E) := rfl
theorem RSE_set1 (D' : List (List V)) (h : D'.length = D.length) : (RS D M ++ E).set 1 (.mem false [] D') = RS D' M ++ E := by unfold RS; rw [h]; rfl
@[simp] theorem RS_lim (n : Nat) (h : 3 ≤ n) : (RS D M).map (limO n) = RS D M := by
  have h1 : 1 < n := by omega
  have h2 : 2 < n := by omega
  simp [RS, limO, O.refs, h1, h2]
@[simp] theorem RS_take3 : List.take 3 (RS D M) = RS D M := rfl
theorem RSE_take (n : Nat) : (RS D M ++ E).take (n + 3) = RS D M ++ E.take n := by simp [RS]
@[simp] theorem RS_clos : clos (RS D M) 8 [0] = [0, 1, 2] := by simp [clos, addAll, O.refs, RS]
@[simp] theorem RSE_clos : clos (RS D M ++ E) 8 [0] = [0, 1, 2] := by simp [clos, addAll, O.refs, RS]
theorem RS_ren (f : Nat → Nat) (h1 : f 1 = 1) (h2 : f 2 = 2) (hD : flR D) (hM : flR M) : (RS D M).map (O.ren f) = RS D M := by
  simp [RS, O.ren, V.renL, V.ren, h1, h2, hD.1, hM.1]
theorem RSE_sub (hD : flR D) (hM : flR M) : sub (RS D M ++ E) [0, 1, 2] = RS D M := RS_ren (idx [0, 1, 2]) rfl rfl hD hM
theorem RS_sub (hD : flR D) (hM : flR M) : sub (RS D M) [0, 1, 2] = RS D M := RS_ren (idx [0, 1, 2]) rfl rfl hD hM
theorem RSE_merge (hD : flR D') (hM : flR M') : merge (RS D M ++ E) [0, 1, 2] (RS D' M') = RS D' M' ++ E := by
  have h := RS_ren (D := D') (M := M') (back [0, 1, 2] (RS D M ++ E).length) rfl rfl hD hM
  have h1 : (RS D' M').take 3 = RS D' M' := rfl
  have h2 : (RS D' M').drop 3 = [] := rfl
  simp only [merge, List.length_cons, List.length_nil, Nat.zero_add, Nat.reduceAdd, h1, h2, h, List.map_nil, List.append_nil]
  rfl
theorem RS_merge (hD : flR D') (hM : flR M') : merge (RS D M) [0, 1, 2] (RS D' M') = RS D' M' := by
  have h := RS_ren (D := D') (M := M') (back [0, 1, 2] (RS D M).length) rfl rfl hD hM
  have h1 : (RS D' M').take 3 = RS D' M' := rfl
  have h2 : (RS D' M').drop 3 = [] := rfl
  simp only [merge, List.length_cons, List.length_nil, Nat.zero_add, Nat.reduceAdd, h1, h2, h, List.map_nil, List.append_nil]
  rfl
theorem RS_sel : OkSel (RS D M) [0, 1, 2] := by simp [OkSel, O.refs, RS]
theorem RSE_sel : OkSel (RS D M ++ E) [0, 1, 2] := by simp [OkSel, O.refs, RS]
end

/-- A list of lists, and marks of it. -/
def dR (d : List (List Int)) : List (List V) := d.map fun l => [vInts l]
def mR (ms : List (List (List Int))) : List (List V) := ms.map fun d => [vIntss d]
theorem flatC_ids : ∀ (D : List (List V)), (∀ r ∈ D, V.idsL r = []) → Ce.idsR (flatC D) = []
  | [], _ => rfl
  | r :: D, h => by
    have hr : ∀ (r : List V), Ce.idsL (r.map Ce.v) = V.idsL r := fun r => by
      induction r with
      | nil => rfl
      | cons x r ih => simp [Ce.idsL, Ce.ids, V.idsL, ih]
    have := flatC_ids D (fun r' h' => h r' (by simp [h']))
    simp only [flatC] at this
    simp [flatC, Ce.idsR, hr, h r (by simp), this]
theorem fl_dR (d : List (List Int)) : flR (dR d) := ⟨fun f => by simp [dR, V.renL, V.ren, vInts, Function.comp_def], flatC_ids _ fun r hr => by
  simp only [dR, List.mem_map] at hr
  obtain ⟨l, _, rfl⟩ := hr
  rfl⟩
theorem fl_mR (ms : List (List (List Int))) : flR (mR ms) := ⟨fun f => by simp [mR, V.renL, V.ren, vIntss, Function.comp_def], flatC_ids _ fun r hr => by
  simp only [mR, List.mem_map] at hr
  obtain ⟨l, _, rfl⟩ := hr
  rfl⟩
@[simp] theorem dR_len (d : List (List Int)) : (dR d).length = d.length := by simp [dR]
@[simp] theorem mR_len (ms : List (List (List Int))) : (mR ms).length = ms.length := by simp [mR]
end Go.Abs.G

namespace Go.Abs
set_option linter.unusedVariables false

theorem adv_packSome {w : World} {F : Nat → Prop} {id : Nat} {tail : List (List Ce)} : ∀ (todo done : List Kid) (H : Heap) (β : Nat → Hd) (refs : List Nat), HOK w.heap H β F →
    H[id]? = some (.tree refs (done.map Kid.nest ++ todo.map Kid.own ++ tail)) → (∀ c ∈ todo, H[c.id]? = some (.tree c.refs c.L) ∧ c.id ≠ id) → (todo.map Kid.id).Nodup →
    ∃ β' H' refs', Adv F w H β w H' β' ∧ H'[id]? = some (.tree refs' ((done ++ todo).map Kid.nest ++ tail)) ∧ H'.length = H.length ∧ ∀ j, j ≠ id → j ∉ todo.map Kid.id → H'[j]? = H[j]?
  | [], done, H, β, refs, hk, hid, _, _ => ⟨β, H, refs, ⟨hk, .refl _, .refl _ _⟩, by simpa using hid, rfl, fun _ _ _ => rfl⟩
  | c :: rest, done, H, β, refs, hk, hid, hc, hnd => by
    obtain ⟨h1, h2⟩ := hc c (by simp)
    have hi : (done.map Kid.nest ++ (c :: rest).map Kid.own ++ tail)[done.length]? = some c.own := by
      rw [List.append_assoc, List.getElem?_append_right (by simp)]; simp
    obtain ⟨β1, a1⟩ := adv_pack (i := done.length) (j := 0) hk hid h1 (fun e => h2 e.symm) hi rfl rfl
    have e1 : (done.map Kid.nest ++ (c :: rest).map Kid.own ++ tail).set done.length (c.own.set 0 (.n c.es c.L)) = (done ++ [c]).map Kid.nest ++ rest.map Kid.own ++ tail := by
      rw [List.append_assoc, List.set_append, if_neg (by simp)]; simp [Kid.own, Kid.nest]
    rw [e1] at a1
    have hid0 : (H.set c.id O.dead)[id]? = some (.tree refs (done.map Kid.nest ++ (c :: rest).map Kid.own ++ tail)) := by rw [getElem?_set_ne' (Ne.symm h2)]; exact hid
    have g1 : ((H.set c.id O.dead).set id (.tree (refs ++ c.refs) ((done ++ [c]).map Kid.nest ++ rest.map Kid.own ++ tail)))[id]? = some (.tree (refs ++ c.refs) ((done ++ [c]).map Kid.nest ++ rest.map Kid.own ++ tail)) := get_set hid0
    have hnd' : c.id ∉ rest.map Kid.id ∧ (rest.map Kid.id).Nodup := by simpa using List.nodup_cons.1 hnd
    obtain ⟨β2, H2, refs2, a2, b1, b2, b3⟩ := adv_packSome rest (done ++ [c]) _ β1 _ a1.hok g1 (fun d hd => by
      obtain ⟨q1, q2⟩ := hc d (by simp [hd])
      refine ⟨?_, q2⟩
      rw [getElem?_set_ne' q2, getElem?_set_ne' fun e => hnd'.1 (by rw [← e]; exact List.mem_map_of_mem hd)]
      exact q1) hnd'.2
    refine ⟨β2, H2, refs2, a1.trans a2, by simpa using b1, by simpa using b2, fun j h3 h4 => ?_⟩
    rw [List.map_cons, List.mem_cons, not_or] at h4
    rw [b3 j h3 h4.2, getElem?_set_ne' h3, getElem?_set_ne' h4.1]

/-- A slice cut short lies in no more blocks. -/
theorem TR.take {c : Cx} {refs : List Nat} {S : Nat → Prop} {ad : Addr} {n cap es : Nat} {rows : List (List Ce)} (l : Nat) (h : TR c refs S (.slice (some ad) n cap) (.n es rows)) (hl : l ≤ rows.length) :
    ∃ S', (∀ k, S' k → S k) ∧ TR c refs S' (.slice (some ad) l cap) (.n es (rows.take l)) := by
  have hn : n = rows.length := by cases h <;> rfl
  subst hn
  by_cases hne : rows = []
  · subst hne
    obtain rfl : l = 0 := by simpa using hl
    exact ⟨S, fun _ h => h, by simpa using h⟩
  obtain ⟨b, o, cs, E, g, T, had, hb, hcap, hsz, hlen, hg, hr, hT, hS, hd, hd2⟩ := h.inv (.inl hne)
  have hlt : (rows.take l).length = l := by rw [List.length_take]; omega
  have hget : ∀ {i : Nat} {row : List Ce}, (rows.take l)[i]? = some row → i < l ∧ rows[i]? = some row := fun {i row} h => by
    rw [List.getElem?_take] at h
    split at h
    · next q => exact ⟨q, h⟩
    · cases h
  refine ⟨fun k => k = b ∨ ∃ i j, i < l ∧ T i j k, fun k hk => (hS k).2 (hk.imp id fun ⟨i, j, _, e⟩ => ⟨i, j, e⟩), ?_⟩
  have := TR.n (c := c) (refs := refs) (S := fun k => k = b ∨ ∃ i j, i < l ∧ T i j k) had cs E g (fun i j k => i < l ∧ T i j k) hb (by rw [hlt]; omega) hsz (fun i row h => hlen i row (hget h).2) (fun i row h j x hx => hg i row (hget h).2 j x hx)
    (fun i row h j x hx => (hr i row (hget h).2 j x hx).congr fun k => ⟨fun e => ⟨(hget h).1, e⟩, fun e => e.2⟩)
    (fun i j k h => by
      obtain ⟨row, x, h1, h2⟩ := hT i j k h.2
      exact ⟨row, x, by rw [List.getElem?_take, if_pos h.1]; exact h1, h2⟩)
    (fun k => Iff.rfl) (fun i j h => hd i j h.2) (fun i j i' j' k h h' => hd2 i j i' j' k h.2 h'.2)
  rw [hlt] at this
  exact this
end Go.Abs

namespace Go.Abs
set_option linter.unusedVariables false
section
variable {w : World} {β : Nat → Hd} {F : Nat → Prop} {H : Heap}

theorem own_cellT {id es l k : Nat} {refs' refs : List Nat} {rows' : List (List Ce)} {u : Value} (hk : HOK w.heap H β F) (hid : H[id]? = some (.tree refs' rows')) (hl : rows'.length = k) (hlk : l ≤ k)
    (hu : RV ((cx w.heap H β F).only refs) u (.own id es 0 l k)) : ∃ S', (∀ b, S' b → ownsB H β id b) ∧ TR (cx w.heap H β F) refs' S' u (.n es (rows'.take l)) := by
  have hd : hdOf H β id = some ((β id).wt k) := by unfold hdOf; rw [hid]; simp [hl]
  cases hu with
  | own hlive h =>
    obtain ⟨_, h2⟩ := h _ hd
    obtain ⟨_, hes, hs⟩ := h2 rfl
    have hob : ∀ b, ownsB H β id b ↔ (β id).nil = false ∧ ((β id).b = b ∨ (β id).sub b) := fun b => by unfold ownsB; rw [hid]
    have hes' : (β id).es = es := hes
    rcases hs with ⟨hn, ⟨ad, rfl⟩, rfl⟩ | ⟨hn, ad, rfl, _, had⟩
    · have hn' : (β id).nil = true := hn
      exact ⟨noSub, fun b e => e.elim, by rw [List.take_zero]; exact TR.nil⟩
    · have hn' : (β id).nil = false := hn
      rcases hk.ro id _ hid with hr | ⟨_, q2, _, q4, _⟩
      · rw [hr.1] at hn'; cases hn'
      · have hcap : ((β id).wt k).cap - (0 - ((β id).wt k).lo) = (β id).cap := by show (β id).cap - (0 - (β id).lo) = _; omega
        rw [hcap]
        rw [hes', hl] at q4
        obtain ⟨S', hS', ht⟩ := q4.take l (by omega)
        refine ⟨S', fun b e => (hob b).2 ⟨hn', hS' b e⟩, ht.addr fun hc => ?_⟩
        have := had (by show 0 - (β id).lo < (β id).cap; omega)
        rw [this]
        show (⟨(β id).b, (β id).o + (0 - (β id).lo) * (β id).es, none⟩ : Addr) = _
        simp

theorem adv_packT {id id' i j es l k : Nat} {refs refs' : List Nat} {rows rows' : List (List Ce)} {row : List Ce} (hk : HOK w.heap H β F) (hid : H[id]? = some (.tree refs rows)) (hid' : H[id']? = some (.tree refs' rows')) (hne : id ≠ id')
    (hi : rows[i]? = some row) (hj : row[j]? = some (.v (.own id' es 0 l k))) (hlen : rows'.length = k) (hlk : l ≤ k) :
    ∃ β', Adv F w H β w ((H.set id' .dead).set id (.tree (refs ++ refs') (rows.set i (row.set j (.n es (rows'.take l)))))) β' := by
  generalize hH' : (H.set id' .dead).set id (.tree (refs ++ refs') (rows.set i (row.set j (.n es (rows'.take l))))) = H'
  have hid0 : (H.set id' O.dead)[id]? = some (.tree refs rows) := by rw [getElem?_set_ne' hne]; exact hid
  have e1 : H'[id]? = some (.tree (refs ++ refs') (rows.set i (row.set j (.n es (rows'.take l))))) := by rw [← hH']; exact get_set hid0
  have e2 : H'[id']? = some .dead := by rw [← hH', getElem?_set_ne' (Ne.symm hne)]; exact get_set hid'
  have e3 : ∀ k, k ≠ id → k ≠ id' → H'[k]? = H[k]? := fun k h1 h2 => by rw [← hH', getElem?_set_ne' h1, getElem?_set_ne' h2]
  have hnn : (β id).nil = false ∧ (β id).lo = 0 ∧ ¬ (β id).sub (β id).b ∧ TR (cx w.heap H β F) refs (fun b => (β id).b = b ∨ (β id).sub b) (.slice (some ⟨(β id).b, (β id).o, none⟩) rows.length (β id).cap) (.n (β id).es rows) ∧ ∀ cs E fr, (cx w.heap H β F).hp[(β id).b]? = some (.cells cs E fr) → (β id).o + (β id).cap * (β id).es ≤ cs.size := by
    rcases hk.ro id _ hid with hr | hr
    · rw [hr.2.1] at hi; simp at hi
    · exact hr
  obtain ⟨q1, q2, q3, q4, q5⟩ := hnn
  obtain ⟨u, Sx, hx, hxs, hxb, hset⟩ := (q4.sup (refs' := refs ++ refs') fun k hk => List.mem_append.2 (.inl hk)).cell hi hj
  obtain ⟨Sc, hSc, hc⟩ := own_cellT hk hid' hlen hlk hx.val
  have ho1 : ∀ b, ownsB H β id b ↔ (β id).b = b ∨ (β id).sub b := fun b => by unfold ownsB; rw [hid]; simp [q1]
  have hsx := hx.vsub
  have hnew := hset _ _ rfl (fun _ _ _ h => h) (.n es (rows'.take l)) Sc (hc.sup fun k hk => List.mem_append.2 (.inr hk)) fun b h1 h2 => absurd (hk.one _ _ _ ((ho1 b).2 h2) (hSc b h1)) hne
  let β' := upd β id ((β id).ws fun b => (β id).sub b ∨ Sc b)
  have ho2 : ∀ b, ownsB H' β' id b ↔ ((β id).b = b ∨ (β id).sub b) ∨ Sc b := fun b => by
    unfold ownsB; rw [e1]
    simp only [β', upd_same, q1, true_and, or_assoc]
  have hd2 : hdOf H' β' id = hdOf H β id := by
    unfold hdOf; rw [e1, hid]; simp only [β', upd_same, List.length_set]; rfl
  obtain ⟨h1, h2⟩ := hk.rearr (H' := H') (β' := β') (K := fun k => k = id ∨ k = id')
    (fun k hK => ⟨e3 k (fun e => hK (.inl e)) (fun e => hK (.inr e)), upd_ne β _ fun e => hK (.inl e)⟩)
    (fun k _ hl => by rw [← hH']; exact live_set (by simp) (live_set (by simp) hl))
    (fun k g' hK _ hg => by
      rcases hK with rfl | rfl
      · rw [← hd2]; exact hg
      · unfold hdOf at hg; rw [e2] at hg; cases hg)
    (fun k b hK hb => by
      rcases hK with rfl | rfl
      · rcases (ho2 b).1 hb with h | h
        · exact ⟨k, .inl rfl, (ho1 b).2 h⟩
        · exact ⟨id', .inr rfl, hSc b h⟩
      · unfold ownsB at hb; rw [e2] at hb; exact hb.elim)
    (fun k k' b hK hK' h1 h2 => by
      rcases hK with rfl | rfl
      · rcases hK' with rfl | rfl
        · rfl
        · unfold ownsB at h2; rw [e2] at h2; exact h2.elim
      · unfold ownsB at h1; rw [e2] at h1; exact h1.elim)
    (fun hle k o hK ho => by
      rcases hK with rfl | rfl
      · rw [e1] at ho; cases ho
        have hb : β' k = (β k).ws fun b => (β k).sub b ∨ Sc b := upd_same _ _ _
        rw [hb]
        refine .inr ⟨q1, q2, fun e => ?_, ?_, q5⟩
        · rcases e with e | e
          · exact q3 e
          · exact hne (hk.one _ _ _ ((ho1 _).2 (.inl rfl)) (hSc _ e))
        · have := (hnew.mono (hle.only _) fun _ _ => rfl).congr (S' := fun b => (β k).b = b ∨ ((β k).sub b ∨ Sc b)) fun b => by
            have := hsx b
            constructor
            · rintro (⟨h | h, _⟩ | h)
              · exact .inl h
              · exact .inr (.inl h)
              · exact .inr (.inr h)
            · rintro (h | h | h)
              · exact .inl ⟨.inl h, this⟩
              · exact .inl ⟨.inr h, this⟩
              · exact .inr h
          rw [List.length_set]
          exact this
      · rw [e2] at ho; cases ho; trivial)
  exact ⟨β', h1, h2, .refl _ _⟩

end
end Go.Abs

namespace Go.Abs.G
open Go.Proofs
set_option linter.unusedVariables false
-- hallmark/hallmarkref11.own
def hallmarkref11_ownF.ann : List (Nat × RA) := [(0, rk [0]), (1, rk [0, 3]), (2, rk [0, 3, 4]), (3, rk [0, 3, 4, 8]), (4, rk [0, 3, 4]), (5, { gs := [(6, [.frz 16, .nilv 16 1])], keep := some [0, 3, 4], aps := [(6, [1000004])] }), (6, { gs := [(0, [.frz 3, .nilv 3 1])], keep := some [2] })]
def hallmarkref11_ownF.b0 : C := .seq (.seq (.reg 0 [zm 0 5 4, zm 1 6 0, zn 2 7 6, za 3 8 .lss 5 7, .g (.keep [0, 3, 4, 8])]) (.cond (.tmp 8) (.skip) (.exit 0))) (.seq (.block 1 (.reg 3 [zm 0 11 3, zm 1 12 0, zm 2 13 4, zx 3 14 1 12 13, zl 4 15 1 14, .o 5 (.app [] (some 16) 0 1 8 (.const (.slice none 0 0)) (.tmp 15)), .g (.frz 16), .g (.nilv 16 1), .o 6 (.bsv (some 17) 1 1 [.a (.slice none 0 0)] [(0, (.tmp 16))]), .o 7 (.app [] (some 18) 2 1 24 (.tmp 11) (.tmp 17)), zm 8 3 18, .g (.keep [0, 3, 4])])) (.reg 0 [zm 0 9 4, zd 1 10 .add 9 1, zm 2 4 10, .g (.keep [0, 3, 4])]))
def hallmarkref11_ownF.ir : C := .seq (.reg 0 [.o 0 (.lt (some 2) (.mov (.const (.slice none 0 0)))), .g (.keep [0])]) (.seq (.reg 0 [.o 0 (.lt (some 3) (.mov (.const (.slice none 0 0)))), .g (.keep [0, 3])]) (.seq (.seq (.reg 0 [zk 0 4 0, .g (.keep [0, 3, 4])]) (.block 0 (.loop hallmarkref11_ownF.b0))) (.seq (.reg 0 [.g (.frz 3), .g (.nilv 3 1), zm 0 19 3, zm 1 2 19, .g (.keep [2])]) (.ret))))
def hallmarkref11_ownF.rs : List Rs := [.sl 2]
theorem hallmarkref11_ownF.ok : isFn Tryz.prog hallmarkref11_own.id 20 hallmarkref11_ownF.ann hallmarkref11_ownF.ir hallmarkref11_ownF.rs := ⟨Tryz.f50, _, Tryz.func50, rfl, rfl, by kernel_rfl, by kernel_rfl⟩
end Go.Abs.G

/- What the reference's look at a problem tells: the same. -/
namespace Go.Abs
set_option linter.unusedVariables false

def listsB (k : Int) : Bool := decide (k = 3) || decide (k = 5) || decide (k = 6) || decide (k = 8) || decide (k = 9)
def manyB (n : Nat) : Bool := decide (n < 1) || decide (64 < n)
def foreignB (c : Con) : Bool :=
  if (decide (c.kind ≠ 9) && decide (c.v ≠ 0)) || (decide (c.kind ≠ 8) && decide (0 < c.rows.length)) then true
  else (decide (c.kind ≠ 1) && decide (c.kind ≠ 9) && decide (c.op ≠ 0)) || (!(decide (c.kind = 1) || decide (c.kind = 7)) && decide (0 < c.terms.length)) ||
    (!(decide (c.kind = 1) || decide (c.kind = 7)) && decide (c.kind ≠ 2) && decide (c.kind ≠ 9) && decide (c.k ≠ 0)) ||
    (decide (c.kind ≠ 2) && decide (c.kind ≠ 4) && decide (c.kind ≠ 7) && decide (c.x ≠ 0)) ||
    ((decide (c.kind = 1) || decide (c.kind = 7) || (listsB c.kind && decide (c.kind ≠ 5) && decide (c.kind ≠ 6))) && decide (c.y ≠ 0)) ||
    (!listsB c.kind && decide (0 < c.xs.length)) || (decide (c.kind ≠ 4) && decide (0 < c.table.length))
def rowsR (c : Con) : Bool := !(decide (8 < c.xs.length) || manyB c.rows.length) && c.rows.all fun r => decide (r.length = c.xs.length)
def termsR (l : List Term) (n : Int) : Int := if badVarB n l then 44 else if badCoefB l then 45 else 0
def placeR (x n : Int) : Bool := decide (0 ≤ x) && decide (x < n)
def placesR (c : Con) (n : Int) : Bool := placeR c.x n && placeR c.y n && c.xs.all fun x => placeR x n
def conR (c : Con) (n : Int) : Int :=
  if decide (c.kind < 1) || decide (9 < c.kind) || ((decide (c.kind = 1) || decide (c.kind = 9)) && (decide (c.op < 1) || decide (3 < c.op))) then 43
  else if foreignB c then 48
  else if ((decide (c.kind = 1) || decide (c.kind = 7)) && manyB c.terms.length) || (listsB c.kind && manyB c.xs.length) || (decide (c.kind = 4) && manyB c.table.length) || (decide (c.kind = 8) && !rowsR c) then 47
  else if !placesR c n || decide (termsR c.terms n = 44) then 44
  else if termsR c.terms n ≠ 0 then termsR c.terms n
  else if !withinB c.k 1000000000 || !withinB c.v 1000000000 then 46
  else if c.rows.any greatB then 46
  else if greatB c.table then 46
  else 0

theorem noB_place (n x : Int) : noB n x = !placeR x n := by
  unfold noB placeR
  rw [Bool.eq_iff_iff]; simp
  try omega
theorem any_place (n : Int) (l : List Int) : (l.any (noB n)) = !(l.all fun x => placeR x n) := by
  induction l with
  | nil => rfl
  | cons a l ih => simp [ih, noB_place]
theorem wide_rows (c : Con) : (decide (8 < c.xs.length) || !countsB true c.rows.length || c.rows.any fun r => decide (r.length ≠ c.xs.length)) = !rowsR c := by
  unfold rowsR manyB countsB
  have : (c.rows.any fun r => decide (r.length ≠ c.xs.length)) = !(c.rows.all fun r => decide (r.length = c.xs.length)) := by
    rw [Bool.eq_iff_iff]; simp
  rw [this]
  generalize (c.rows.all fun r => decide (r.length = c.xs.length)) = b
  rw [Bool.eq_iff_iff]
  cases b <;> simp <;> omega

theorem conR_eq (c : Con) (n : Int) (hn : 0 < n) : conR c n = conB c n := by
  unfold conB conR needs
  by_cases hk : c.kind < 1 ∨ 9 < c.kind
  · have : (decide (c.kind < 1) || decide (9 < c.kind) || ((decide (c.kind = 1) || decide (c.kind = 9)) && (decide (c.op < 1) || decide (3 < c.op)))) = true := by
      rcases hk with h | h <;> simp [h]
    rw [if_pos this]
    have h1 : c.kind ≠ 1 ∧ c.kind ≠ 2 ∧ c.kind ≠ 3 ∧ c.kind ≠ 4 ∧ c.kind ≠ 5 ∧ c.kind ≠ 6 ∧ c.kind ≠ 7 ∧ c.kind ≠ 8 ∧ c.kind ≠ 9 := by omega
    simp [h1]
  · have hks : c.kind = 1 ∨ c.kind = 2 ∨ c.kind = 3 ∨ c.kind = 4 ∨ c.kind = 5 ∨ c.kind = 6 ∨ c.kind = 7 ∨ c.kind = 8 ∨ c.kind = 9 := by omega
    have hT : (termsR c.terms n = 44) ↔ badVarB n c.terms = true := by
      unfold termsR; cases badVarB n c.terms <;> cases badCoefB c.terms <;> simp
    have hX := noB_place n c.x
    have hY := noB_place n c.y
    have hXs := any_place n c.xs
    have hW := wide_rows c
    have p0 : placeR 0 n = true := by simp [placeR]; omega
    unfold conN placesR
    rw [hX, hY, hXs]
    simp only [wideB, hW]
    simp only [hT]
    unfold termsR fieldB foreignB listsB manyB countsB
    generalize badVarB n c.terms = A
    generalize badCoefB c.terms = B
    generalize (c.xs.all fun x => placeR x n) = D
    generalize greatB c.table = G
    generalize c.rows.any greatB = R
    generalize rowsR c = W
    generalize withinB c.k 1000000000 = K1
    generalize withinB c.v 1000000000 = K2
    rcases hks with h | h | h | h | h | h | h | h | h
    · simp [h]
      grind
    all_goals (simp [h]; try grind)
end Go.Abs

namespace Go.Abs.G
open Go.Proofs
attribute [local simp] I.vc sub merge place
set_option linter.unusedVariables false

theorem within_spec (n most : Int) (h0 : 0 ≤ most) (h1 : most ≤ 9223372036854775807) : Pf Tryz.prog model_within.id [V.i n, V.i most] (.bool (withinB n most)) := by
  refine DC.of model_within.ok (by simp) ?_
  have hw : IntKind.i64.wrap (-most) = -most := wrap64 (by omega) (by omega)
  simp [model_within.ir, model_within.rs, hw, withinB]
  by_cases h : -most ≤ n <;> simp [h] <;> omega

theorem great1_spec (n : Int) : Pf Tryz.prog model_great_1.id [V.i n] (.bool (!withinB n 1000000000)) := by
  refine DC.of model_great_1.ok (by simp) ?_
  simp [model_great_1.ir, model_great_1.rs]
  exact (within_spec n 1000000000 (by decide) (by decide)).use (by simp)

/-- The place of the first of which something is told. -/
def firstAt {α : Type} (p : α → Bool) : Nat → List α → Int
  | _, [] => -1
  | i, x :: l => if p x then i else firstAt p (i + 1) l

theorem firstAt_any {α : Type} (p : α → Bool) : ∀ (l : List α) (i : Nat), decide (0 ≤ firstAt p i l) = l.any p := by
  intro l
  induction l with
  | nil => intro i; simp [firstAt]
  | cons x l ih =>
    intro i
    simp only [firstAt, List.any_cons]
    by_cases h : p x = true
    · simp [h]
    · simp [h, ih]

theorem firstAt_drop {α : Type} (p : α → Bool) {l : List α} {i : Nat} (h : i < l.length) : firstAt p i (l.drop i) = if p l[i] then (i : Int) else firstAt p (i + 1) (l.drop (i + 1)) := by
  rw [List.drop_eq_getElem_cons h]; rfl

theorem index_int_spec {f : FuncId} {cap : List V} {p : Int → Bool} {l : List Int} (hok : okFunc Tryz.prog f = true) (hids : V.idsL cap = []) (hg : ∀ t ∈ l, DP Tryz.prog f (V.i t :: cap) fun r => r = .bool (p t)) (hl : l.length ≤ maxLen) :
    Pf Tryz.prog slices_IndexFunc_Lint_int.id [vInts l, .fn (.func f) [] cap] (V.i (firstAt p 0 l)) := by
  have hm : (maxLen : Int) ≤ 9223372036854775807 := by decide
  refine DC.of slices_IndexFunc_Lint_int.ok (by simp) ?_
  simp [slices_IndexFunc_Lint_int.ir, slices_IndexFunc_Lint_int.rs, vInts]
  refine WI.loop 0 (by simp) (fun s => ∃ i, i ≤ l.length ∧ gt s.sl 1 = .fn (.func f) [] cap ∧ gt s.sl 0 = vInts l ∧ gt s.sl 7 = V.i l.length ∧ gt s.sl 8 = V.i i ∧ s.hp = [] ∧ firstAt p 0 l = firstAt p i (l.drop i)) (fun s => (l.length - (gt s.sl 8).num).toNat) ?_ ?_
  · exact ⟨0, by simp [vInts]⟩
  · rintro ⟨sl, hp, bs⟩ ⟨i, hi, h1, h0, h7, h8, rfl, he⟩
    by_cases hil : i < l.length
    · simp [slices_IndexFunc_Lint_int.b0, h1, h0, h7, h8, vInts, hil, hok, hids]
      refine DP.mono (hg _ (List.getElem_mem hil)) fun r hr => ?_
      subst hr
      rw [firstAt_drop p hil] at he
      have hw : IntKind.i64.wrap ((i : Int) + 1) = ((i + 1 : Nat) : Int) := by rw [wrap64] <;> omega
      cases hp : p l[i]
      · simp [hw, he, hp]
        exact ⟨⟨i + 1, by omega, by omega, rfl⟩, by omega⟩
      · simp [he, hp]
    · obtain rfl : i = l.length := by omega
      simp [slices_IndexFunc_Lint_int.b0, h1, h0, h7, h8, he, firstAt]

theorem contains_int_spec {f : FuncId} {cap : List V} {p : Int → Bool} {l : List Int} (hok : okFunc Tryz.prog f = true) (hids : V.idsL cap = []) (hg : ∀ t ∈ l, DP Tryz.prog f (V.i t :: cap) fun r => r = .bool (p t)) (hl : l.length ≤ maxLen) :
    Pf Tryz.prog slices_ContainsFunc_Lint_int.id [vInts l, .fn (.func f) [] cap] (.bool (l.any p)) := by
  refine DC.of slices_ContainsFunc_Lint_int.ok (by simp) ?_
  simp [slices_ContainsFunc_Lint_int.ir, slices_ContainsFunc_Lint_int.rs, vInts, hids]
  refine (index_int_spec hok hids hg hl).use ?_
  simp [firstAt_any]

theorem great_spec (l : List Int) (hl : l.length ≤ maxLen) : Pf Tryz.prog model_great.id [vInts l] (.bool (greatB l)) := by
  refine DC.of model_great.ok (by simp) ?_
  simp [model_great.ir, model_great.rs, vInts]
  refine (contains_int_spec (by simp) (by simp) (fun t _ => great1_spec t) hl).use ?_
  simp [greatB]

theorem counts_spec (b : Bool) (n : Nat) : Pf Tryz.prog model_counts.id [.bool b, V.i n] (.bool (countsB b n)) := by
  refine DC.of model_counts.ok (by simp) ?_
  simp [model_counts.ir, model_counts.rs, countsB]
  cases b <;> by_cases h : 1 ≤ n <;> simp [h] <;> omega

end Go.Abs.G


namespace Go.Abs.G
open Go.Proofs
attribute [local simp] I.vc sub merge place
set_option linter.unusedVariables false
theorem index_ints_spec {f : FuncId} {cap : List V} {p : List Int → Bool} {l : List (List Int)} (hok : okFunc Tryz.prog f = true) (hids : V.idsL cap = []) (hg : ∀ t ∈ l, DP Tryz.prog f (vInts t :: cap) fun r => r = .bool (p t)) (hl : l.length ≤ maxLen) :
    Pf Tryz.prog slices_IndexFunc_LLint_Lint.id [vIntss l, .fn (.func f) [] cap] (V.i (firstAt p 0 l)) := by
  have hm : (maxLen : Int) ≤ 9223372036854775807 := by decide
  refine DC.of slices_IndexFunc_LLint_Lint.ok (by simp) ?_
  simp [slices_IndexFunc_LLint_Lint.ir, slices_IndexFunc_LLint_Lint.rs, vIntss]
  refine WI.loop 0 (by simp) (fun s => ∃ i, i ≤ l.length ∧ gt s.sl 1 = .fn (.func f) [] cap ∧ gt s.sl 0 = vIntss l ∧ gt s.sl 7 = V.i l.length ∧ gt s.sl 8 = V.i i ∧ s.hp = [] ∧ firstAt p 0 l = firstAt p i (l.drop i)) (fun s => (l.length - (gt s.sl 8).num).toNat) ?_ ?_
  · exact ⟨0, by simp [vIntss]⟩
  · rintro ⟨sl, hp, bs⟩ ⟨i, hi, h1, h0, h7, h8, rfl, he⟩
    by_cases hil : i < l.length
    · simp [slices_IndexFunc_LLint_Lint.b0, h1, h0, h7, h8, vIntss, vInts, hil, hok, hids]
      refine DP.mono (hg _ (List.getElem_mem hil)) fun r hr => ?_
      subst hr
      rw [firstAt_drop p hil] at he
      have hw : IntKind.i64.wrap ((i : Int) + 1) = ((i + 1 : Nat) : Int) := by rw [wrap64] <;> omega
      cases hp : p l[i]
      · simp [hw, he, hp]
        exact ⟨⟨i + 1, by omega, by omega, rfl⟩, by omega⟩
      · simp [he, hp]
    · obtain rfl : i = l.length := by omega
      simp [slices_IndexFunc_LLint_Lint.b0, h1, h0, h7, h8, he, firstAt]

theorem contains_ints_spec {f : FuncId} {cap : List V} {p : List Int → Bool} {l : List (List Int)} (hok : okFunc Tryz.prog f = true) (hids : V.idsL cap = []) (hg : ∀ t ∈ l, DP Tryz.prog f (vInts t :: cap) fun r => r = .bool (p t)) (hl : l.length ≤ maxLen) :
    Pf Tryz.prog slices_ContainsFunc_LLint_Lint.id [vIntss l, .fn (.func f) [] cap] (.bool (l.any p)) := by
  refine DC.of slices_ContainsFunc_LLint_Lint.ok (by simp) ?_
  simp [slices_ContainsFunc_LLint_Lint.ir, slices_ContainsFunc_LLint_Lint.rs, vIntss, hids]
  refine (index_ints_spec hok hids hg hl).use ?_
  simp [firstAt_any]

theorem index_var_spec {f : FuncId} {cap : List V} {p : Var → Bool} {l : List (Var)} (hok : okFunc Tryz.prog f = true) (hids : V.idsL cap = []) (hg : ∀ t ∈ l, DP Tryz.prog f (.agg t.cells :: cap) fun r => r = .bool (p t)) (hl : l.length ≤ maxLen) :
    Pf Tryz.prog slices_IndexFunc_Lapi_Var_api_Var.id [vVars l, .fn (.func f) [] cap] (V.i (firstAt p 0 l)) := by
  have hm : (maxLen : Int) ≤ 9223372036854775807 := by decide
  refine DC.of slices_IndexFunc_Lapi_Var_api_Var.ok (by simp) ?_
  simp [slices_IndexFunc_Lapi_Var_api_Var.ir, slices_IndexFunc_Lapi_Var_api_Var.rs, vVars]
  refine WI.loop 0 (by simp) (fun s => ∃ i, i ≤ l.length ∧ gt s.sl 1 = .fn (.func f) [] cap ∧ gt s.sl 0 = vVars l ∧ gt s.sl 7 = V.i l.length ∧ gt s.sl 8 = V.i i ∧ s.hp = [] ∧ firstAt p 0 l = firstAt p i (l.drop i)) (fun s => (l.length - (gt s.sl 8).num).toNat) ?_ ?_
  · exact ⟨0, by simp [vVars]⟩
  · rintro ⟨sl, hp, bs⟩ ⟨i, hi, h1, h0, h7, h8, rfl, he⟩
    by_cases hil : i < l.length
    · simp [slices_IndexFunc_Lapi_Var_api_Var.b0, h1, h0, h7, h8, vVars, Var.cells, hil, hok, hids]
      refine DP.mono (hg _ (List.getElem_mem hil)) fun r hr => ?_
      subst hr
      rw [firstAt_drop p hil] at he
      have hw : IntKind.i64.wrap ((i : Int) + 1) = ((i + 1 : Nat) : Int) := by rw [wrap64] <;> omega
      cases hp : p l[i]
      · simp [hw, he, hp]
        exact ⟨⟨i + 1, by omega, by omega, rfl⟩, by omega⟩
      · simp [he, hp]
    · obtain rfl : i = l.length := by omega
      simp [slices_IndexFunc_Lapi_Var_api_Var.b0, h1, h0, h7, h8, he, firstAt]

theorem contains_var_spec {f : FuncId} {cap : List V} {p : Var → Bool} {l : List (Var)} (hok : okFunc Tryz.prog f = true) (hids : V.idsL cap = []) (hg : ∀ t ∈ l, DP Tryz.prog f (.agg t.cells :: cap) fun r => r = .bool (p t)) (hl : l.length ≤ maxLen) :
    Pf Tryz.prog slices_ContainsFunc_Lapi_Var_api_Var.id [vVars l, .fn (.func f) [] cap] (.bool (l.any p)) := by
  refine DC.of slices_ContainsFunc_Lapi_Var_api_Var.ok (by simp) ?_
  simp [slices_ContainsFunc_Lapi_Var_api_Var.ir, slices_ContainsFunc_Lapi_Var_api_Var.rs, vVars, hids]
  refine (index_var_spec hok hids hg hl).use ?_
  simp [firstAt_any]

end Go.Abs.G


namespace Go.Abs.G
open Go.Proofs
attribute [local simp] I.vc sub merge place
set_option linter.unusedVariables false
theorem any_take_succ {α : Type} (p : α → Bool) {l : List α} {i : Nat} (h : i < l.length) : (l.take (i + 1)).any p = ((l.take i).any p || p l[i]) := by
  rw [List.take_succ_eq_append_getElem h, List.any_append]; simp

theorem terms_spec (l : List Term) (vars : Int) (hl : l.length ≤ maxLen) :
    Pf Tryz.prog model_terms.id [vTerms l, V.i vars] (.tup [.bool (badVarB vars l), .bool (badCoefB l)]) := by
  have hm : (maxLen : Int) ≤ 9223372036854775807 := by decide
  refine DC.of model_terms.ok (by simp) ?_
  simp [model_terms.ir, model_terms.rs, vTerms]
  refine WI.loop 0 (by simp) (fun s => ∃ i, i ≤ l.length ∧ gt s.sl 1 = V.i vars ∧ gt s.sl 4 = .bool (badVarB vars (l.take i)) ∧ gt s.sl 5 = .bool (badCoefB (l.take i)) ∧ gt s.sl 8 = vTerms l ∧ gt s.sl 9 = V.i l.length ∧ gt s.sl 10 = V.i i ∧ s.hp = []) (fun s => (l.length - (gt s.sl 10).num).toNat) ?_ ?_
  · exact ⟨0, by simp [vTerms, badVarB, badCoefB]⟩
  · rintro ⟨sl, hp, bs⟩ ⟨i, hi, h1, h4, h5, h8, h9, h10, rfl⟩
    by_cases hil : i < l.length
    · have e1 : badVarB vars (l.take (i + 1)) = (badVarB vars (l.take i) || (decide (l[i].x < 0) || decide (vars ≤ l[i].x))) := any_take_succ _ hil
      have e2 : badCoefB (l.take (i + 1)) = (badCoefB (l.take i) || (decide (l[i].c = 0) || !withinB l[i].c 1000000)) := any_take_succ _ hil
      have hw : IntKind.i64.wrap ((i : Int) + 1) = ((i + 1 : Nat) : Int) := by rw [wrap64] <;> omega
      have g10 := h10
      unfold model_terms.b0
      refine vc_cut (fun s => gt s.sl 1 = V.i vars ∧ gt s.sl 4 = .bool (badVarB vars (l.take i)) ∧ gt s.sl 5 = .bool (badCoefB (l.take i)) ∧ gt s.sl 8 = vTerms l ∧ gt s.sl 9 = V.i l.length ∧ gt s.sl 10 = V.i i ∧ gt s.sl 11 = V.bool true ∧ s.hp = []) (by simp [h1, h4, h5, h8, h9, h10, hil]) ?_
      rintro ⟨sl, hp, bs⟩ ⟨h1, h4, h5, h8, h9, h10, h11, rfl⟩
      refine vc_cut (fun s => gt s.sl 1 = V.i vars ∧ gt s.sl 4 = .bool (badVarB vars (l.take i)) ∧ gt s.sl 5 = .bool (badCoefB (l.take i)) ∧ gt s.sl 8 = vTerms l ∧ gt s.sl 9 = V.i l.length ∧ gt s.sl 10 = V.i i ∧ s.hp = []) (by simp [h1, h4, h5, h8, h9, h10, h11, hil]) ?_
      rintro ⟨sl, hp, bs⟩ ⟨h1, h4, h5, h8, h9, h10, rfl⟩
      refine vc_cut (fun s => gt s.sl 1 = V.i vars ∧ gt s.sl 4 = .bool (badVarB vars (l.take (i + 1))) ∧ gt s.sl 5 = .bool (badCoefB (l.take (i + 1))) ∧ gt s.sl 8 = vTerms l ∧ gt s.sl 9 = V.i l.length ∧ gt s.sl 10 = V.i i ∧ s.hp = [.mem false [] [l[i].cells]]) (vc_block_of ?_) ?_
      · refine vc_cut (fun s => gt s.sl 1 = V.i vars ∧ gt s.sl 4 = .bool (badVarB vars (l.take i)) ∧ gt s.sl 5 = .bool (badCoefB (l.take i)) ∧ gt s.sl 7 = .ptr 0 1 0 0 ∧ gt s.sl 8 = vTerms l ∧ gt s.sl 9 = V.i l.length ∧ gt s.sl 10 = V.i i ∧ s.hp = [.mem false [] [l[i].cells]]) (by simp [h1, h4, h5, h8, h9, h10, vTerms, Term.cells, hil]) ?_
        rintro ⟨sl, hp, bs⟩ ⟨h1, h4, h5, h7, h8, h9, h10, rfl⟩
        refine vc_cut (fun s => gt s.sl 1 = V.i vars ∧ gt s.sl 4 = .bool (badVarB vars (l.take (i + 1))) ∧ gt s.sl 5 = .bool (badCoefB (l.take i)) ∧ gt s.sl 7 = .ptr 0 1 0 0 ∧ gt s.sl 8 = vTerms l ∧ gt s.sl 9 = V.i l.length ∧ gt s.sl 10 = V.i i ∧ s.hp = [.mem false [] [l[i].cells]]) ?_ ?_
        · rw [e1]
          simp [h1, h4, h5, h7, h8, h9, h10, vTerms, Term.cells]
          cases badVarB vars (l.take i) <;> simp
          by_cases hx : l[i].x < 0 <;> simp [hx] <;> omega
        rintro ⟨sl, hp, bs⟩ ⟨h1, h4, h5, h7, h8, h9, h10, rfl⟩
        rw [e2]
        simp [h1, h4, h5, h7, h8, h9, h10, vTerms, Term.cells]
        cases badCoefB (l.take i) <;> simp
        by_cases hx : l[i].c = 0 <;> simp [hx]
        refine (within_spec l[i].c 1000000 (by decide) (by decide)).use ?_
        simp
      · rintro ⟨sl, hp, bs⟩ ⟨h1, h4, h5, h8, h9, h10, rfl⟩
        simp [h1, h4, h5, h8, h9, h10, hw, vTerms, g10]
        exact ⟨⟨i + 1, by omega, rfl, rfl, by omega⟩, by omega⟩
    · obtain rfl : i = l.length := by omega
      simp [model_terms.b0, h1, h4, h5, h8, h9, h10]

theorem wide1_spec (r : List Int) (c : Con) : Pf Tryz.prog model_wide_1.id [vInts r, .ref c.cells 0] (.bool (decide (r.length ≠ c.xs.length))) := by
  refine DC.of model_wide_1.ok (by simp) ?_
  simp [model_wide_1.ir, model_wide_1.rs, vInts, Con.cells, vTerms, vIntss]
  by_cases h : r.length = c.xs.length <;> simp [h]
  omega

theorem byteArray_ext {s t : ByteArray} (h : s.toList = t.toList) : s = t := by
  have hs : ∀ a : ByteArray, a.toList = a.data.toList := fun a => ByteArray.toList_eq a
  rw [hs, hs] at h
  exact ByteArray.ext (Array.ext' h)

theorem variable1_spec (w v : Var) : Pf Tryz.prog model_variable_1.id [.agg w.cells, .ref v.cells 0] (.bool (decide (w.name = v.name))) := by
  refine DC.of model_variable_1.ok (by simp) ?_
  simp [model_variable_1.ir, model_variable_1.rs, Var.cells]
  by_cases h : w.name = v.name <;> simp [h]
  exact fun h' => h (byteArray_ext h')

end Go.Abs.G


namespace Go.Abs.G
open Go.Proofs
attribute [local simp] I.vc sub merge place
set_option linter.unusedVariables false

theorem wide_spec (c : Con) (n : Needs) (f : FuncId) (hr : c.rows.length ≤ maxLen) : Pf Tryz.prog model_wide.id [.agg c.cells, .agg (n.cells f)] (.bool (wideB c n)) := by
  refine DC.of model_wide.ok (by simp) ?_
  simp [model_wide.ir, model_wide.rs, wideB, Con.cells, vTerms, vInts, vIntss, Needs.cells]
  by_cases hx : 8 < c.xs.length
  · have hx' : (8 : Int) < c.xs.length := by omega
    cases n.rows <;> simp [hx, hx', Int.not_le.2 hx']
  · have hx' : ¬ (8 : Int) < c.xs.length := by omega
    have hx2 : (c.xs.length : Int) ≤ 8 := by omega
    cases n.rows <;> simp [hx, hx', hx2]
    refine (counts_spec true c.rows.length).use ?_
    simp
    cases hb : countsB true c.rows.length <;> simp
    refine DP.mono (contains_ints_spec (p := fun r => decide (r.length ≠ c.xs.length)) (cap := [.ref c.cells 0]) (by simp) (by simp) (fun t _ => wide1_spec t c) hr) fun r hr => ?_
    subst hr
    simp

theorem fieldB_eq (c : Con) (n : Needs) : fieldB c n = (decide (¬ ((if n.op then 0 else c.op) = 0 ∧ (if n.k then 0 else c.k) = 0 ∧ (if n.v then 0 else c.v) = 0 ∧ (if n.x then 0 else c.x) = 0 ∧ (if n.y then 0 else c.y) = 0)) || (!n.terms && decide (0 < c.terms.length)) || (!n.xs && decide (0 < c.xs.length)) || (!n.table && decide (0 < c.table.length)) || (!n.rows && decide (0 < c.rows.length))) := by
  have key : ((!n.op && decide (c.op ≠ 0)) || (!n.k && decide (c.k ≠ 0)) || (!n.v && decide (c.v ≠ 0)) || (!n.x && decide (c.x ≠ 0)) || (!n.y && decide (c.y ≠ 0))) = decide (¬ ((if n.op then 0 else c.op) = 0 ∧ (if n.k then 0 else c.k) = 0 ∧ (if n.v then 0 else c.v) = 0 ∧ (if n.x then 0 else c.x) = 0 ∧ (if n.y then 0 else c.y) = 0)) := by
    cases n.op <;> cases n.k <;> cases n.v <;> cases n.x <;> cases n.y <;> rw [Bool.eq_iff_iff] <;> simp <;> omega
  unfold fieldB
  rw [key]

theorem field_spec (c : Con) (n : Needs) (f : FuncId) : Pf Tryz.prog model_field.id [.agg c.cells, .agg (n.cells f)] (.bool (fieldB c n)) := by
  refine DC.of model_field.ok (by simp) ?_
  unfold model_field.ir
  have hc : (V.agg c.cells).sized [] 10 := by simp [Con.cells, vTerms, vInts, vIntss]
  refine vc_cut (fun s => gt s.sl 2 = .ptr 0 1 0 0 ∧ gt s.sl 3 = .ptr 1 1 0 0 ∧ s.hp = [.mem false [] [c.cells], .mem false [] [n.cells f]]) (by simp [Con.cells, vTerms, vInts, vIntss, Needs.cells]) ?_
  rintro ⟨sl, hp, bs⟩ ⟨h2, h3, rfl⟩
  refine vc_cut (fun s => gt s.sl 2 = .ptr 0 1 0 0 ∧ gt s.sl 3 = .ptr 1 1 0 0 ∧ gt s.sl 5 = .ptr 2 1 0 0 ∧ s.hp = [.mem false [] [c.cells], .mem false [] [n.cells f], .mem false [] [[V.i c.op, V.i c.k, V.i c.v, V.i c.x, V.i c.y]]]) (by simp [h2, h3, Con.cells, vTerms, vInts, vIntss, Needs.cells]) ?_
  rintro ⟨sl, hp, bs⟩ ⟨h2, h3, h5, rfl⟩
  have key : ∀ (o k v x y : Int), o = (if n.op then 0 else c.op) → True := fun _ _ _ _ _ _ => trivial
  refine vc_cut (fun s => gt s.sl 2 = .ptr 0 1 0 0 ∧ gt s.sl 3 = .ptr 1 1 0 0 ∧ gt s.sl 5 = .ptr 2 1 0 0 ∧ s.hp = [.mem false [] [c.cells], .mem false [] [n.cells f], .mem false [] [[V.i (if n.op then 0 else c.op), V.i c.k, V.i c.v, V.i c.x, V.i c.y]]]) (by cases hb : n.op <;> simp [h2, h3, h5, Con.cells, vTerms, vInts, vIntss, Needs.cells, hb]) ?_
  rintro ⟨sl, hp, bs⟩ ⟨h2, h3, h5, rfl⟩
  refine vc_cut (fun s => gt s.sl 2 = .ptr 0 1 0 0 ∧ gt s.sl 3 = .ptr 1 1 0 0 ∧ gt s.sl 5 = .ptr 2 1 0 0 ∧ s.hp = [.mem false [] [c.cells], .mem false [] [n.cells f], .mem false [] [[V.i (if n.op then 0 else c.op), V.i c.k, V.i (if n.v then 0 else c.v), V.i c.x, V.i c.y]]]) (by cases hb : n.v <;> simp [h2, h3, h5, Con.cells, vTerms, vInts, vIntss, Needs.cells, hb]) ?_
  rintro ⟨sl, hp, bs⟩ ⟨h2, h3, h5, rfl⟩
  refine vc_cut (fun s => gt s.sl 2 = .ptr 0 1 0 0 ∧ gt s.sl 3 = .ptr 1 1 0 0 ∧ gt s.sl 5 = .ptr 2 1 0 0 ∧ s.hp = [.mem false [] [c.cells], .mem false [] [n.cells f], .mem false [] [[V.i (if n.op then 0 else c.op), V.i (if n.k then 0 else c.k), V.i (if n.v then 0 else c.v), V.i c.x, V.i c.y]]]) (by cases hb : n.k <;> simp [h2, h3, h5, Con.cells, vTerms, vInts, vIntss, Needs.cells, hb]) ?_
  rintro ⟨sl, hp, bs⟩ ⟨h2, h3, h5, rfl⟩
  refine vc_cut (fun s => gt s.sl 2 = .ptr 0 1 0 0 ∧ gt s.sl 3 = .ptr 1 1 0 0 ∧ gt s.sl 5 = .ptr 2 1 0 0 ∧ s.hp = [.mem false [] [c.cells], .mem false [] [n.cells f], .mem false [] [[V.i (if n.op then 0 else c.op), V.i (if n.k then 0 else c.k), V.i (if n.v then 0 else c.v), V.i (if n.x then 0 else c.x), V.i c.y]]]) (by cases hb : n.x <;> simp [h2, h3, h5, Con.cells, vTerms, vInts, vIntss, Needs.cells, hb]) ?_
  rintro ⟨sl, hp, bs⟩ ⟨h2, h3, h5, rfl⟩
  refine vc_cut (fun s => gt s.sl 2 = .ptr 0 1 0 0 ∧ gt s.sl 3 = .ptr 1 1 0 0 ∧ gt s.sl 5 = .ptr 2 1 0 0 ∧ s.hp = [.mem false [] [c.cells], .mem false [] [n.cells f], .mem false [] [[V.i (if n.op then 0 else c.op), V.i (if n.k then 0 else c.k), V.i (if n.v then 0 else c.v), V.i (if n.x then 0 else c.x), V.i (if n.y then 0 else c.y)]]]) (by cases hb : n.y <;> simp [h2, h3, h5, Con.cells, vTerms, vInts, vIntss, Needs.cells, hb]) ?_
  rintro ⟨sl, hp, bs⟩ ⟨h2, h3, h5, rfl⟩
  have hf := fieldB_eq c n
  rw [hf]
  generalize (if n.op then 0 else c.op) = o
  generalize (if n.k then 0 else c.k) = k
  generalize (if n.v then 0 else c.v) = v
  generalize (if n.x then 0 else c.x) = x
  generalize (if n.y then 0 else c.y) = y
  generalize hb0 : decide (¬ (o = 0 ∧ k = 0 ∧ v = 0 ∧ x = 0 ∧ y = 0)) = b0
  refine vc_cut (fun s => gt s.sl 4 = .bool (b0 || (!n.terms && decide (0 < c.terms.length)) || (!n.xs && decide (0 < c.xs.length)) || (!n.table && decide (0 < c.table.length)) || (!n.rows && decide (0 < c.rows.length)))) (vc_reg_of ?_) ?_
  · have e : ∀ b0 b : Bool, (b0 || b) = if b0 then true else b := fun b0 b => by cases b0 <;> rfl
    refine vcIts_cut 4 (fun s => gt s.sl 2 = .ptr 0 1 0 0 ∧ gt s.sl 3 = .ptr 1 1 0 0 ∧ gt s.sl 35 = .bool b0 ∧ s.hp = [.mem false [] [c.cells], .mem false [] [n.cells f], .mem false [] [[V.i o, V.i k, V.i v, V.i x, V.i y]]]) ?_ ?_
    · simp [h2, h3, h5, ← hb0]
      rfl
    rintro ⟨sl, hp, bs⟩ ⟨h2, h3, h4, rfl⟩
    refine vcIts_cut 11 (fun s => gt s.sl 2 = .ptr 0 1 0 0 ∧ gt s.sl 3 = .ptr 1 1 0 0 ∧ gt s.sl 46 = .bool (b0 || (!n.terms && decide (0 < c.terms.length))) ∧ s.hp = [.mem false [] [c.cells], .mem false [] [n.cells f], .mem false [] [[V.i o, V.i k, V.i v, V.i x, V.i y]]]) ?_ ?_
    · cases b0 <;> cases hn : n.terms <;> simp [h2, h3, h4, hn, Con.cells, vTerms, vInts, vIntss, Needs.cells]
    generalize (b0 || (!n.terms && decide (0 < c.terms.length))) = b1
    rintro ⟨sl, hp, bs⟩ ⟨h2, h3, h4, rfl⟩
    refine vcIts_cut 11 (fun s => gt s.sl 2 = .ptr 0 1 0 0 ∧ gt s.sl 3 = .ptr 1 1 0 0 ∧ gt s.sl 57 = .bool (b1 || (!n.xs && decide (0 < c.xs.length))) ∧ s.hp = [.mem false [] [c.cells], .mem false [] [n.cells f], .mem false [] [[V.i o, V.i k, V.i v, V.i x, V.i y]]]) ?_ ?_
    · cases b1 <;> cases hn : n.xs <;> simp [h2, h3, h4, hn, Con.cells, vTerms, vInts, vIntss, Needs.cells]
    generalize (b1 || (!n.xs && decide (0 < c.xs.length))) = b2
    rintro ⟨sl, hp, bs⟩ ⟨h2, h3, h4, rfl⟩
    refine vcIts_cut 11 (fun s => gt s.sl 2 = .ptr 0 1 0 0 ∧ gt s.sl 3 = .ptr 1 1 0 0 ∧ gt s.sl 68 = .bool (b2 || (!n.table && decide (0 < c.table.length))) ∧ s.hp = [.mem false [] [c.cells], .mem false [] [n.cells f], .mem false [] [[V.i o, V.i k, V.i v, V.i x, V.i y]]]) ?_ ?_
    · cases b2 <;> cases hn : n.table <;> simp [h2, h3, h4, hn, Con.cells, vTerms, vInts, vIntss, Needs.cells]
    generalize (b2 || (!n.table && decide (0 < c.table.length))) = b3
    rintro ⟨sl, hp, bs⟩ ⟨h2, h3, h4, rfl⟩
    cases b3 <;> cases hn : n.rows <;> simp [h2, h3, h4, hn, Con.cells, vTerms, vInts, vIntss, Needs.cells]
  · rintro ⟨sl, hp, bs⟩ h4
    simp [h4, model_field.rs]
end Go.Abs.G


namespace Go.Abs.G
open Go.Proofs
attribute [local simp] I.vc sub merge place
set_option linter.unusedVariables false

def kindTab : List (Int × Needs × FuncId) := [
  (1, ⟨true, false, false, false, false, false, true, true, false⟩, model_lin.id),
  (2, ⟨false, false, false, false, true, true, true, false, false⟩, model_kinds_1.id),
  (3, ⟨false, true, false, false, false, false, false, false, false⟩, model_allDiff.id),
  (4, ⟨false, false, true, false, true, true, false, false, false⟩, model_element.id),
  (5, ⟨false, true, false, false, false, true, false, false, false⟩, model_kinds_2.id),
  (6, ⟨false, true, false, false, false, true, false, false, false⟩, model_kinds_3.id),
  (7, ⟨true, false, false, false, true, false, true, false, false⟩, model_reif.id),
  (8, ⟨false, true, false, true, false, false, false, false, false⟩, model_table.id),
  (9, ⟨false, true, false, false, false, false, true, true, true⟩, model_count.id)]
def kindEnts : List (V × V) := kindTab.map fun e => (V.i e.1, .agg (e.2.1.cells e.2.2))
def kindsV : V := .mview kindEnts

theorem kindEnts_key : ∀ e ∈ kindEnts, e.1.isKey .i64 = true := by
  intro e he
  obtain ⟨t, _, rfl⟩ := List.mem_map.1 he
  rfl

theorem kindEnts_get (k : Int) : (needs k = none ∧ getE kindEnts k = none) ∨ ∃ n f, needs k = some n ∧ (k, n, f) ∈ kindTab ∧ getE kindEnts k = some (.agg (n.cells f)) := by
  by_cases h1 : k = 1
  · subst h1; exact .inr ⟨_, _, rfl, by simp [kindTab], rfl⟩
  by_cases h2 : k = 2
  · subst h2; exact .inr ⟨_, _, rfl, by simp [kindTab], rfl⟩
  by_cases h3 : k = 3
  · subst h3; exact .inr ⟨_, _, rfl, by simp [kindTab], rfl⟩
  by_cases h4 : k = 4
  · subst h4; exact .inr ⟨_, _, rfl, by simp [kindTab], rfl⟩
  by_cases h5 : k = 5
  · subst h5; exact .inr ⟨_, _, rfl, by simp [kindTab], rfl⟩
  by_cases h6 : k = 6
  · subst h6; exact .inr ⟨_, _, rfl, by simp [kindTab], rfl⟩
  by_cases h7 : k = 7
  · subst h7; exact .inr ⟨_, _, rfl, by simp [kindTab], rfl⟩
  by_cases h8 : k = 8
  · subst h8; exact .inr ⟨_, _, rfl, by simp [kindTab], rfl⟩
  by_cases h9 : k = 9
  · subst h9; exact .inr ⟨_, _, rfl, by simp [kindTab], rfl⟩
  · refine .inl ⟨by simp [needs, *], ?_⟩
    simp [kindEnts, kindTab, getE]
    omega

theorem kinds_spec : Pf Tryz.prog model_kinds.id [] kindsV := by
  refine DC.of model_kinds.ok (by simp) ?_
  simp [model_kinds.ir, model_kinds.rs, kindsV, kindEnts, kindTab, Needs.cells, V.isKey]

theorem con1_spec (x vars : Int) : Pf Tryz.prog model_con_1.id [V.i x, .ref [V.i vars] 0] (.bool (noB vars x)) := by
  refine DC.of model_con_1.ok (by simp) ?_
  by_cases h : x < 0 <;> simp [model_con_1.ir, model_con_1.rs, noB, h]

def zeroNeeds : List V := [.bool false, .bool false, .bool false, .bool false, .bool false, .bool false, .bool false, .bool false, .bool false, .a .nilFunc]

theorem con_look (c : Con) (vars : Int) : vc Tryz.prog (.reg 1 [.o 1 (.lt (some 12) (.fad (.tmp 2) 0)),
    .o 2 (.lt (some 13) (.ld false 1 (.tmp 12))),
    .o 0 (.call (some 11) model_kinds.id []),
    .o 3 (.lt (some 14) (.lkp true .i64 (.agg [.a (.bool false), .a (.bool false), .a (.bool false), .a (.bool false), .a (.bool false), .a (.bool false), .a (.bool false), .a (.bool false), .a (.bool false), .a (.nilFunc)]) (.tmp 11) (.tmp 13))),
    .o 4 (.lt (some 10) (.mov (.tmp 14))),
    .o 5 (.lt (some 15) (.ext (.tmp 10) 0)),
    .o 6 (.lt (some 16) (.ext (.tmp 10) 1)),
    .o 7 (.alloc (some 5) 0 10 [.a (.bool false), .a (.bool false), .a (.bool false), .a (.bool false), .a (.bool false), .a (.bool false), .a (.bool false), .a (.bool false), .a (.bool false), .a (.nilFunc)]),
    .o 8 (.store [] 10 (.tmp 5) (.tmp 15)),
    .o 9 (.lt (some 6) (.mov (.tmp 16))),
    .g (.keep [2, 3, 5, 6])]) (fun e s => match e with
      | .norm => gt s.sl 2 = .ptr 0 1 0 0 ∧ gt s.sl 3 = .ptr 1 1 0 0 ∧ gt s.sl 5 = .ptr 2 1 0 0 ∧ ((needs c.kind = none ∧ gt s.sl 6 = .bool false ∧ s.hp = [.mem false [] [c.cells], .mem false [] [[V.i vars]], .mem false [] [zeroNeeds]]) ∨
          ∃ n f, needs c.kind = some n ∧ gt s.sl 6 = .bool true ∧ s.hp = [.mem false [] [c.cells], .mem false [] [[V.i vars]], .mem false [] [n.cells f]])
      | _ => False) ⟨up (up e0 3 (.ptr 1 1 0 0)) 2 (.ptr 0 1 0 0), [.mem false [] [c.cells], .mem false [] [[V.i vars]]], 0⟩ := by
  simp [Con.cells, vTerms, vInts, vIntss]
  refine kinds_spec.use ?_
  have hk := kindEnts_key
  rcases kindEnts_get c.kind with ⟨h1, h2⟩ | ⟨n, f, h1, h2, h3⟩
  · simp [kindsV, h1, h2, zeroNeeds]
    exact ⟨fun a b h => hk _ h, rfl⟩
  · simp [kindsV, h1, h3, Needs.cells]
    exact ⟨fun a b h => hk _ h, rfl⟩

def conSt (c : Con) (vars : Int) (n : Needs) (f : FuncId) (s : St) : Prop :=
  gt s.sl 2 = .ptr 0 1 0 0 ∧ gt s.sl 3 = .ptr 1 1 0 0 ∧ gt s.sl 5 = .ptr 2 1 0 0 ∧ s.hp = [.mem false [] [c.cells], .mem false [] [[V.i vars]], .mem false [] [n.cells f]]

def conSt2 (c : Con) (vars : Int) (n : Needs) (f : FuncId) (s : St) : Prop :=
  gt s.sl 2 = .ptr 0 1 0 0 ∧ gt s.sl 5 = .ptr 2 1 0 0 ∧ gt s.sl 7 = .bool (badVarB vars c.terms) ∧ gt s.sl 8 = .bool (badCoefB c.terms) ∧ gt s.sl 9 = .fn (.func model_con_1.id) [] [.ptr 1 1 0 0] ∧
    s.hp = [.mem false [] [c.cells], .mem false [] [[V.i vars]], .mem false [] [n.cells f]]

theorem con_spec (c : Con) (vars : Int) (hc : okCon c) : Pf Tryz.prog model_con.id [.agg c.cells, V.i vars] (V.i (conB c vars)) := by
  have hm : (maxLen : Int) ≤ 9223372036854775807 := by decide
  obtain ⟨_, _, ⟨k3, _⟩, _, _, _, _, ⟨k8, k8'⟩, ⟨k9, k9'⟩, k10, k11⟩ := hc
  refine DC.of model_con.ok (by simp) ?_
  unfold model_con.ir
  refine vc_cut (fun s => s = ⟨up (up e0 3 (.ptr 1 1 0 0)) 2 (.ptr 0 1 0 0), [.mem false [] [c.cells], .mem false [] [[V.i vars]]], 0⟩) (by simp [Con.cells, vTerms, vInts, vIntss]) ?_
  rintro _ rfl
  refine vc_cut _ (vc_mono (fun e s hs => by cases e <;> first | exact hs | exact hs.elim) (con_look c vars)) ?_
  rintro ⟨sl, hp, bs⟩ ⟨h2, h3, h5, ⟨hn, h6, rfl⟩ | ⟨n, f, hn, h6, rfl⟩⟩
  · simp [h2, h3, h5, h6, hn, conB, model_con.rs]
  have hcB : conB c vars = conN c vars n := by simp [conB, hn]
  rw [hcB]
  -- the operator
  refine vc_cut (fun s => conSt c vars n f s ∧ (n.op && (decide (c.op < 1) || decide (3 < c.op))) = false) ?_ ?_
  · cases ho : n.op
    · simp [h2, h3, h5, h6, conSt, Needs.cells, ho, Con.cells, vTerms, vInts, vIntss]
    · by_cases h1 : c.op < 1
      · simp [h2, h3, h5, h6, conSt, Needs.cells, ho, Con.cells, vTerms, vInts, vIntss, h1, conN, model_con.rs]
      · by_cases h1' : 3 < c.op <;> simp [h2, h3, h5, h6, conSt, Needs.cells, ho, Con.cells, vTerms, vInts, vIntss, h1, h1', conN, model_con.rs] <;> omega
  rintro ⟨sl, hp, bs⟩ ⟨⟨h2, h3, h5, rfl⟩, b1⟩
  refine vc_cut (fun s => conSt c vars n f s ∧ gt s.sl 7 = .bool (badVarB vars c.terms) ∧ gt s.sl 8 = .bool (badCoefB c.terms)) ?_ ?_
  · simp [h2, h3, h5, Con.cells, vTerms, vInts, vIntss]
    refine (terms_spec c.terms vars k3).use ?_
    simp [conSt, Con.cells, vTerms, vInts, vIntss]
  rintro ⟨sl, hp, bs⟩ ⟨⟨h2, h3, h5, rfl⟩, h7, h8⟩
  refine vc_cut (fun s => conSt2 c vars n f s) ?_ ?_
  · simp [h2, h3, h5, h7, h8, conSt2]
  rintro ⟨sl, hp, bs⟩ ⟨h2, h5, h7, h8, h9, rfl⟩
  refine vc_cut (fun s => conN c vars n = 0) (vc_block_of ?_) ?_
  · refine vc_cut (fun s => conSt2 c vars n f s ∧ gt s.sl 41 = .bool (fieldB c n)) ?_ ?_
    · simp [h2, h5, Needs.cells, Con.cells, vTerms, vInts, vIntss]
      refine (field_spec c n f).use ?_
      simp [h2, h5, h7, h8, h9, conSt2, Needs.cells, Con.cells, vTerms, vInts, vIntss]
    rintro ⟨sl, hp, bs⟩ ⟨⟨h2, h5, h7, h8, h9, rfl⟩, h41⟩
    cases b2 : fieldB c n
    case true => simp [h41, b2, model_con.rs, conN, b1]
    rw [b2] at h41
    rw [vc_cond_false (show St.ev _ (.tmp 41) = _ from h41)]
    refine vc_cut (fun s => conSt2 c vars n f s ∧ gt s.sl 45 = .bool (!countsB n.terms c.terms.length || !countsB n.xs c.xs.length || !countsB n.table c.table.length || wideB c n)) ?_ ?_
    · simp [h2, h5, h7, h8, h9, Needs.cells, Con.cells, vTerms, vInts, vIntss]
      refine (counts_spec n.terms c.terms.length).use ?_
      cases countsB n.terms c.terms.length
      · simp [conSt2, h2, h5, h7, h8, h9, Needs.cells, Con.cells, vTerms, vInts, vIntss]
      simp [h2, h5, h7, h8, h9, Needs.cells, Con.cells, vTerms, vInts, vIntss]
      refine (counts_spec n.xs c.xs.length).use ?_
      cases countsB n.xs c.xs.length
      · simp [conSt2, h2, h5, h7, h8, h9, Needs.cells, Con.cells, vTerms, vInts, vIntss]
      simp [h2, h5, h7, h8, h9, Needs.cells, Con.cells, vTerms, vInts, vIntss]
      refine (counts_spec n.table c.table.length).use ?_
      cases countsB n.table c.table.length
      · simp [conSt2, h2, h5, h7, h8, h9, Needs.cells, Con.cells, vTerms, vInts, vIntss]
      simp [h2, h5, h7, h8, h9, Needs.cells, Con.cells, vTerms, vInts, vIntss]
      refine (wide_spec c n f k10).use ?_
      simp [conSt2, h2, h5, h7, h8, h9, Needs.cells, Con.cells, vTerms, vInts, vIntss]
    rintro ⟨sl, hp, bs⟩ ⟨⟨h2, h5, h7, h8, h9, rfl⟩, h45⟩
    cases b3 : (!countsB n.terms c.terms.length || !countsB n.xs c.xs.length || !countsB n.table c.table.length || wideB c n)
    case true => rw [b3] at h45; simp [h45, model_con.rs, conN, b1, b2, b3]
    rw [b3] at h45
    rw [vc_cond_false (show St.ev _ (.tmp 45) = _ from h45)]
    refine vc_cut (fun s => gt s.sl 2 = .ptr 0 1 0 0 ∧ gt s.sl 8 = .bool (badCoefB c.terms) ∧ s.hp = [.mem false [] [c.cells], .mem false [] [[V.i vars]], .mem false [] [n.cells f]] ∧
      gt s.sl 70 = .bool (badVarB vars c.terms || (n.x && noB vars c.x) || (n.y && noB vars c.y) || c.xs.any (noB vars))) ?_ ?_
    · cases b0 : badVarB vars c.terms
      case true => rw [b0] at h7; simp [h2, h5, h7, h8, h9, Needs.cells, Con.cells, vTerms, vInts, vIntss]
      rw [b0] at h7
      have last : DP Tryz.prog slices_ContainsFunc_Lint_int.id [vInts c.xs, .fn (.func model_con_1.id) [] [.ref [V.i vars] 0]] fun r => r = .bool (c.xs.any (noB vars)) :=
        contains_int_spec (p := noB vars) (cap := [.ref [V.i vars] 0]) (by simp) (by simp) (fun t _ => con1_spec t vars) k8
      have last' : ∀ Q : V → Prop, Q (.bool (c.xs.any (noB vars))) → DP Tryz.prog slices_ContainsFunc_Lint_int.id [.view 1 (List.map (fun n => [V.i n]) c.xs), .fn (.func model_con_1.id) [] [.ref [V.i vars] 0]] Q := fun Q hq => DP.mono last fun r hr => by rw [hr]; exact hq
      have mid : ∀ b : Bool, (n.y && noB vars c.y) = b → True := fun _ _ => trivial
      cases hx : n.x <;> cases hy : n.y <;> simp [h2, h5, h7, h8, h9, Needs.cells, Con.cells, vTerms, vInts, vIntss, hx, hy]
      · exact last' _ (by simp)
      · refine (con1_spec c.y vars).use ?_
        cases noB vars c.y <;> simp
        exact last' _ (by simp)
      · refine (con1_spec c.x vars).use ?_
        cases noB vars c.x <;> simp
        exact last' _ (by simp)
      · refine (con1_spec c.x vars).use ?_
        cases noB vars c.x <;> simp
        refine (con1_spec c.y vars).use ?_
        cases noB vars c.y <;> simp
        exact last' _ (by simp)
    rintro ⟨sl, hp, bs⟩ ⟨h2, h8, rfl, h70⟩
    cases b4 : (badVarB vars c.terms || (n.x && noB vars c.x) || (n.y && noB vars c.y) || c.xs.any (noB vars))
    case true => rw [b4] at h70; simp [h70, model_con.rs, conN, b1, b2, b3, b4]
    rw [b4] at h70
    rw [vc_cond_false (show St.ev _ (.tmp 70) = _ from h70)]
    refine vc_cut (fun s => gt s.sl 2 = .ptr 0 1 0 0 ∧ gt s.sl 92 = .bool (badCoefB c.terms) ∧ s.hp = [.mem false [] [c.cells], .mem false [] [[V.i vars]], .mem false [] [n.cells f]]) (by simp [h2, h8]) ?_
    rintro ⟨sl, hp, bs⟩ ⟨h2, h92, rfl⟩
    cases b5 : badCoefB c.terms
    case true => simp [h92, model_con.rs, conN, b1, b2, b3, b4, b5]
    rw [b5] at h92
    rw [vc_cond_false (show St.ev _ (.tmp 92) = _ from h92)]
    refine vc_cut (fun s => gt s.sl 94 = .bool (!withinB c.k 1000000000 || !withinB c.v 1000000000 || greatB c.table || c.rows.any greatB)) ?_ ?_
    · simp [h2, Needs.cells, Con.cells, vTerms, vInts, vIntss]
      refine (within_spec c.k 1000000000 (by decide) (by decide)).use ?_
      cases withinB c.k 1000000000
      · simp
      simp [h2, Needs.cells, Con.cells, vTerms, vInts, vIntss]
      refine (within_spec c.v 1000000000 (by decide) (by decide)).use ?_
      cases withinB c.v 1000000000
      · simp
      simp [h2, Needs.cells, Con.cells, vTerms, vInts, vIntss]
      refine (great_spec c.table k9).use ?_
      cases greatB c.table
      case true => simp
      simp [h2, Needs.cells, Con.cells, vTerms, vInts, vIntss]
      refine (contains_ints_spec (by simp) (by simp) (fun t ht => great_spec t (k11 t ht).1) k10).use ?_
      simp
    rintro ⟨sl, hp, bs⟩ h94
    cases b6 : (!withinB c.k 1000000000 || !withinB c.v 1000000000 || greatB c.table || c.rows.any greatB)
    case true => rw [b6] at h94; simp [h94, model_con.rs, conN, b1, b2, b3, b4, b5, b6]
    rw [b6] at h94
    simp [h94, conN, b1, b2, b3, b4, b5, b6]
  · rintro ⟨sl, hp, bs⟩ h0
    simp [h0, model_con.rs]
end Go.Abs.G


namespace Go.Abs.G
open Go.Proofs
attribute [local simp] I.vc sub merge place
set_option linter.unusedVariables false

theorem width_pos (s : ByteArray) (pos : Nat) : 1 ≤ (Utf8.decode s pos).2 := by
  unfold Utf8.decode
  simp only
  repeat' split
  all_goals simp

theorem nameFrom_step (s : ByteArray) (f pos : Nat) (h : pos < s.size) : nameFrom s (f + 1) pos = if !letterB (Utf8.decode s pos).1 && (decide (pos = 0) || decide ((Utf8.decode s pos).1 < 48) || decide (57 < (Utf8.decode s pos).1)) then false else nameFrom s f (pos + (Utf8.decode s pos).2) := by
  rw [nameFrom, if_pos h]

theorem nameFrom_end (s : ByteArray) (f pos : Nat) (h : ¬ pos < s.size) : nameFrom s f pos = true := by
  cases f with
  | zero => rfl
  | succ f => rw [nameFrom, if_neg h]

def sitLeft : Heap → Nat
  | [.sit s pos] => s.size - pos
  | _ => 0
attribute [simp] sitLeft

theorem name_spec (s : ByteArray) (hs : s.size ≤ maxLen) : Pf Tryz.prog model_isName.id [.str s] (.bool (nameB s)) := by
  have hm : (maxLen : Int) ≤ 9223372036854775807 := by decide
  refine DC.of model_isName.ok (by simp) ?_
  simp [model_isName.ir, model_isName.rs]
  refine WI.mono (Q := fun e st => (e = .exit 0 ∧ gt st.sl 0 = .str s ∧ nameFrom s (s.size + 1) 0 = true) ∨ (e = .ret ∧ gt st.sl 2 = .bool false ∧ nameFrom s (s.size + 1) 0 = false)) (WI.loop 1 (by simp) (fun st => ∃ pos f, gt st.sl 0 = .str s ∧ gt st.sl 7 = .ptr 0 0 0 0 ∧ st.hp = [.sit s pos] ∧ s.size < f + pos ∧ nameFrom s (s.size + 1) 0 = nameFrom s f pos) (fun st => sitLeft st.hp) ?_ ?_) ?_
  · exact ⟨0, s.size + 1, by simp⟩
  · rintro ⟨sl, hp, bs⟩ ⟨pos, f, h0, h7, rfl, hf, he⟩
    by_cases hp : pos < s.size
    · obtain ⟨f, rfl⟩ : ∃ g, f = g + 1 := ⟨f - 1, by omega⟩
      have hw := width_pos s pos
      rw [nameFrom_step s f pos hp] at he
      have hnm : pos = 0 ∨ 0 < pos := by omega
      generalize hd : Utf8.decode s pos = d at he hw
      obtain ⟨r, wd⟩ := d
      simp only at he hw
      unfold model_isName.b0
      refine vc_cut (fun st => gt st.sl 0 = .str s ∧ gt st.sl 7 = .ptr 0 0 0 0 ∧ gt st.sl 8 = .tup [.bool true, V.i pos, .int .i32 r] ∧ gt st.sl 9 = .bool true ∧ st.hp = [.sit s (pos + wd)]) (by simp [h0, h7, hp, hd]) ?_
      rintro ⟨sl, _, bs⟩ ⟨h0, h7, h8, h9, rfl⟩
      refine vc_cut (fun st => gt st.sl 0 = .str s ∧ gt st.sl 7 = .ptr 0 0 0 0 ∧ gt st.sl 8 = .tup [.bool true, V.i pos, .int .i32 r] ∧ st.hp = [.sit s (pos + wd)]) (by simp [h0, h7, h8, h9]) ?_
      rintro ⟨sl, _, bs⟩ ⟨h0, h7, h8, rfl⟩
      refine vc_block_of (vc_cut (fun st => gt st.sl 0 = .str s ∧ gt st.sl 7 = .ptr 0 0 0 0 ∧ gt st.sl 3 = V.i pos ∧ gt st.sl 4 = .int .i32 r ∧ st.hp = [.sit s (pos + wd)]) (by simp [h0, h7, h8]) ?_)
      rintro ⟨sl, _, bs⟩ ⟨h0, h7, h3, h4, rfl⟩
      refine vc_cut (fun st => gt st.sl 0 = .str s ∧ gt st.sl 7 = .ptr 0 0 0 0 ∧ gt st.sl 3 = V.i pos ∧ gt st.sl 4 = .int .i32 r ∧ gt st.sl 5 = .bool (letterB r) ∧ st.hp = [.sit s (pos + wd)]) ?_ ?_
      · unfold letterB
        have i1 : ((97 : Int) ≤ (r : Int)) = (97 ≤ r) := by apply propext; omega
        have i2 : ((r : Int) ≤ 122) = (r ≤ 122) := by apply propext; omega
        have i3 : ((65 : Int) ≤ (r : Int)) = (65 ≤ r) := by apply propext; omega
        have i4 : ((r : Int) ≤ 90) = (r ≤ 90) := by apply propext; omega
        have i5 : ((r : Int) == 95) = decide (r = 95) := by rw [Bool.eq_iff_iff]; simp; omega
        by_cases a1 : 97 ≤ r <;> by_cases a2 : r ≤ 122 <;> by_cases a3 : 65 ≤ r <;> by_cases a4 : r ≤ 90 <;> first | (exfalso; omega) | simp [h0, h7, h3, h4, i1, i2, i3, i4, i5, a1, a2, a3, a4]
      rintro ⟨sl, _, bs⟩ ⟨h0, h7, h3, h4, h5, rfl⟩
      refine vc_cut (fun st => gt st.sl 0 = .str s ∧ gt st.sl 7 = .ptr 0 0 0 0 ∧ gt st.sl 43 = .bool (!letterB r && (decide (pos = 0) || decide (r < 48) || decide (57 < r))) ∧ st.hp = [.sit s (pos + wd)]) ?_ ?_
      · have i1 : ((r : Int) < 48) = (r < 48) := by apply propext; omega
        have i2 : ((57 : Int) < (r : Int)) = (57 < r) := by apply propext; omega
        have i3 : ((pos : Int) = 0) = (pos = 0) := by apply propext; omega
        cases hl : letterB r <;> rw [hl] at h5 <;> by_cases a1 : pos = 0 <;> by_cases a2 : r < 48 <;> simp [h0, h7, h3, h4, h5, i1, i2, i3, a1, a2]
      rintro ⟨sl, _, bs⟩ ⟨h0, h7, h43, rfl⟩
      cases hb : (!letterB r && (decide (pos = 0) || decide (r < 48) || decide (57 < r)))
      · rw [hb] at h43 he
        simp [h0, h7, h43]
        exact ⟨⟨f, by omega, by simpa using he⟩, by omega⟩
      · rw [hb] at h43 he
        simp [h0, h7, h43]
        simpa using he
    · rw [nameFrom_end s f pos hp] at he
      simp [model_isName.b0, h0, h7, hp, he]
  · rintro e ⟨sl, hp, bs⟩ (⟨rfl, h0, he⟩ | ⟨rfl, h2, he⟩)
    · by_cases h1 : 1 ≤ s.size
      · have h1' : (1 : Int) ≤ s.size := by omega
        simp [h0, nameB, he, h1, h1']
        omega
      · have h1' : ¬ (1 : Int) ≤ s.size := by omega
        simp [h0, nameB, he, h1, h1']
    · simp [h2, nameB, he]

theorem goal_spec (m : Model) (hl : m.goal.length ≤ maxLen) : Pf Tryz.prog model_goal.id [.agg m.cells] (V.i (goalB m)) := by
  refine DC.of model_goal.ok (by simp) ?_
  simp [model_goal.ir, model_goal.rs, Model.cells, vVars, vCons, vTerms]
  refine (terms_spec m.goal m.vars.length hl).use ?_
  simp
  by_cases h0 : m.goal = []
  · cases hg : m.hasGoal
    · simp [h0, goalB, hg]
      refine (counts_spec false 0).use ?_
      cases countsB false 0 <;> simp
      simp [badVarB, badCoefB]
    · simp [h0, goalB, hg]
      refine (counts_spec true 0).use ?_
      cases hc : countsB true 0 <;> simp
      all_goals (simp [countsB] at hc)
  · have h1 : 0 < m.goal.length := List.length_pos_iff.2 h0
    have h0' : (0 : Int) < m.goal.length := by omega
    cases hg : m.hasGoal
    · simp [h0, goalB, hg]
    · simp [h0, goalB, hg]
      refine (counts_spec true m.goal.length).use ?_
      cases countsB true m.goal.length <;> simp
      cases badVarB m.vars.length m.goal <;> simp

theorem variable_spec (l : List Var) (i : Nat) (h : i < l.length) (hl : l.length ≤ maxLen) (hv : okVar l[i]) : Pf Tryz.prog model_variable.id [vVars l, V.i i] (V.i (varB l i l[i])) := by
  have hm : (maxLen : Int) ≤ 9223372036854775807 := by decide
  refine DC.of model_variable.ok (by simp) ?_
  unfold model_variable.ir
  refine vc_cut (fun s => gt s.sl 0 = vVars l ∧ gt s.sl 1 = V.i i ∧ s.hp = []) (by simp) ?_
  rintro ⟨sl, hp, bs⟩ ⟨h0, h1, rfl⟩
  refine vc_cut (fun s => gt s.sl 0 = vVars l ∧ gt s.sl 1 = V.i i ∧ gt s.sl 5 = .ptr 0 1 0 0 ∧ s.hp = [.mem false [] [l[i].cells]]) (by simp [h0, h1, vVars, h, Var.cells]) ?_
  rintro ⟨sl, hp, bs⟩ ⟨h0, h1, h5, rfl⟩
  generalize hv' : l[i] = v at *
  obtain ⟨hv1, _, _⟩ := hv
  have hi : (i : Int) ≤ l.length := by omega
  have htk : List.take i (List.map Var.cells l) = List.map Var.cells (l.take i) := List.map_take.symm
  refine vc_cut (fun s => gt s.sl 5 = .ptr 0 1 0 0 ∧ s.hp = [.mem false [] [v.cells]] ∧ nameB v.name = true ∧ ((l.take i).any fun w => decide (w.name = v.name)) = false) ?_ ?_
  · simp [h0, h1, h5, Var.cells]
    refine (name_spec v.name hv1).use ?_
    cases hn : nameB v.name
    · simp [varB, hn, model_variable.rs]
    simp [h0, h1, h5, Var.cells, vVars, hi]
    rw [htk]
    refine DP.mono (contains_var_spec (p := fun w => decide (w.name = v.name)) (cap := [.ref v.cells 0]) (l := l.take i) (by simp) (by simp) (fun t _ => variable1_spec t v) (by simp; omega)) fun r hr => ?_
    subst hr
    cases ha : ((l.take i).any fun w => decide (w.name = v.name))
    · simp [ha, Var.cells]
      simpa using ha
    · simp [varB, hn, ha, model_variable.rs]
  rintro ⟨sl, hp, bs⟩ ⟨h5, rfl, b1, b2⟩
  have hb : varB l i v = if !withinB v.lo 1000000000 || !withinB v.hi 1000000000 || decide (v.hi < v.lo) || decide (64 ≤ v.hi - v.lo) then 42 else 0 := by
    unfold varB; rw [b1, b2]; rfl
  rw [hb]
  refine vc_cut (fun s => (!withinB v.lo 1000000000 || !withinB v.hi 1000000000 || decide (v.hi < v.lo) || decide (64 ≤ v.hi - v.lo)) = false) ?_ ?_
  · simp [h5, Var.cells]
    refine (within_spec v.lo 1000000000 (by decide) (by decide)).use ?_
    cases w1 : withinB v.lo 1000000000
    · simp [model_variable.rs]
    simp [h5, Var.cells]
    refine (within_spec v.hi 1000000000 (by decide) (by decide)).use ?_
    cases w2 : withinB v.hi 1000000000
    · simp [model_variable.rs]
    unfold withinB at w1 w2
    simp at w1 w2
    have hw : IntKind.i64.wrap (v.hi - v.lo) = v.hi - v.lo := by rw [wrap64] <;> omega
    by_cases hlt : v.hi < v.lo
    · simp [hlt, Int.not_le.2 hlt, model_variable.rs, Var.cells]
    · by_cases hge : 64 ≤ v.hi - v.lo <;> simp [hlt, hw, hge, model_variable.rs, Var.cells] <;> omega
  · rintro ⟨sl, hp, bs⟩ hb
    rw [hb]
    simp [model_variable.rs]
end Go.Abs.G


namespace Go.Abs.G
open Go.Proofs
attribute [local simp] I.vc sub merge place
set_option linter.unusedVariables false
set_option linter.unusedSimpArgs false

theorem firstBad_drop {α : Type} (f : Nat → α → Int) {l : List α} {i : Nat} (h : i < l.length) : firstBad f i (l.drop i) = if f i l[i] = 0 then firstBad f (i + 1) (l.drop (i + 1)) else some (i, f i l[i]) := by
  rw [List.drop_eq_getElem_cons h]; rfl

theorem check_spec (m : Model) (hm' : okModel m) : Pf Tryz.prog model_Check.id [.agg m.cells] (.tup [V.i (checkB m).1, V.i (checkB m).2]) := by
  have hm : (maxLen : Int) ≤ 9223372036854775807 := by decide
  obtain ⟨⟨hv, hv'⟩, ⟨hc, hc'⟩, hg, _⟩ := hm'
  refine DC.of model_Check.ok (by simp) ?_
  unfold model_Check.ir
  refine vc_cut (fun s => gt s.sl 1 = .ptr 0 1 0 0 ∧ s.hp = [.mem false [] [m.cells]]) (by simp [Model.cells, vVars, vCons, vTerms]) ?_
  rintro ⟨sl, hp, bs⟩ ⟨h1, rfl⟩
  refine vc_cut (fun s => gt s.sl 1 = .ptr 0 1 0 0 ∧ s.hp = [.mem false [] [m.cells]] ∧ ¬ (m.vars.length = 0 ∨ 32 < m.vars.length)) ?_ ?_
  · by_cases l0 : m.vars = []
    · simp [h1, Model.cells, vVars, vCons, vTerms, l0, checkB, model_Check.rs]
    · have l0' : ¬ m.vars.length = 0 := by simpa using l0
      have l0'' : ¬ (m.vars.length : Int) = 0 := by omega
      by_cases l1 : 32 < m.vars.length
      · have l1' : (32 : Int) < m.vars.length := by omega
        simp [h1, Model.cells, vVars, vCons, vTerms, l0, l1, l1', checkB, model_Check.rs]
      · have l1' : ¬ (32 : Int) < m.vars.length := by omega
        simp [h1, Model.cells, vVars, vCons, vTerms, l0, l1, l1']
  rintro ⟨sl, hp, bs⟩ ⟨h1, rfl, hn⟩
  refine vc_cut (fun s => gt s.sl 1 = .ptr 0 1 0 0 ∧ s.hp = [.mem false [] [m.cells]] ∧ firstBad (varB m.vars) 0 m.vars = none) ?_ ?_
  · simp [h1, Model.cells, vVars, vCons, vTerms]
    refine WI.mono (Q := fun e s => (e = .exit 0 ∧ gt s.sl 1 = .ptr 0 1 0 0 ∧ s.hp = [.mem false [] [m.cells]] ∧ firstBad (varB m.vars) 0 m.vars = none) ∨ (e = .ret ∧ ∃ (i : Nat) (r : Int), firstBad (varB m.vars) 0 m.vars = some (i, r) ∧ gt s.sl 2 = V.i i ∧ gt s.sl 3 = V.i r)) (WI.loop 1 (by simp) (fun s => ∃ i, i ≤ m.vars.length ∧ gt s.sl 1 = .ptr 0 1 0 0 ∧ gt s.sl 22 = V.i m.vars.length ∧ gt s.sl 23 = V.i i ∧ s.hp = [.mem false [] [m.cells]] ∧ firstBad (varB m.vars) 0 m.vars = firstBad (varB m.vars) i (m.vars.drop i)) (fun s => (m.vars.length - (gt s.sl 23).num).toNat) ?_ ?_) ?_
    · exact ⟨0, by simp [h1, Model.cells, vVars, vCons, vTerms]⟩
    · rintro ⟨sl, hp, bs⟩ ⟨i, hi, h1, h22, h23, rfl, he⟩
      by_cases hil : i < m.vars.length
      · simp [model_Check.b0, h1, h22, h23, hil, Model.cells, vVars, vCons, vTerms]
        refine (variable_spec m.vars i hil hv (hv' _ (List.getElem_mem hil))).use ?_
        rw [firstBad_drop _ hil] at he
        have hw : IntKind.i64.wrap ((i : Int) + 1) = ((i + 1 : Nat) : Int) := by rw [wrap64] <;> omega
        by_cases hb : varB m.vars i m.vars[i] = 0
        · rw [if_pos hb] at he
          simp [hb, hw, Model.cells, vVars, vCons, vTerms]
          exact ⟨⟨i + 1, by omega, by omega, he⟩, by omega⟩
        · rw [if_neg hb] at he
          simp [hb, he]
      · obtain rfl : i = m.vars.length := by omega
        rw [List.drop_length] at he
        simp [model_Check.b0, h1, h22, h23, he, firstBad]
    · rintro e ⟨sl, hp, bs⟩ (⟨rfl, h1, rfl, he⟩ | ⟨rfl, i, r, he, h2, h3⟩)
      · simp [h1, he, Model.cells, vVars, vCons, vTerms]
      · have hC : checkB m = ((i : Int), r) := by unfold checkB; rw [if_neg hn, he]
        simp [h2, h3, hC, model_Check.rs]
  rintro ⟨sl, hp, bs⟩ ⟨h1, rfl, he1⟩
  refine vc_cut (fun s => gt s.sl 1 = .ptr 0 1 0 0 ∧ s.hp = [.mem false [] [m.cells]] ∧ ¬ 64 < m.cons.length) ?_ ?_
  · by_cases l1 : 64 < m.cons.length
    · have l1' : (64 : Int) < m.cons.length := by omega
      have hC : checkB m = ((m.vars.length : Int), 49) := by unfold checkB; rw [if_neg hn, he1]; simp only; rw [if_pos l1]
      simp [h1, Model.cells, vVars, vCons, vTerms, l1', hC, model_Check.rs]
    · have l1' : ¬ (64 : Int) < m.cons.length := by omega
      simp [h1, Model.cells, vVars, vCons, vTerms, l1, l1']
  rintro ⟨sl, hp, bs⟩ ⟨h1, rfl, hn2⟩
  refine vc_cut (fun s => gt s.sl 1 = .ptr 0 1 0 0 ∧ s.hp = [.mem false [] [m.cells]] ∧ firstBad (fun _ c => conB c m.vars.length) 0 m.cons = none) ?_ ?_
  · simp [h1, Model.cells, vVars, vCons, vTerms]
    refine WI.mono (Q := fun e s => (e = .exit 2 ∧ gt s.sl 1 = .ptr 0 1 0 0 ∧ s.hp = [.mem false [] [m.cells]] ∧ firstBad (fun _ c => conB c m.vars.length) 0 m.cons = none) ∨ (e = .ret ∧ ∃ (i : Nat) (r : Int), firstBad (fun _ c => conB c m.vars.length) 0 m.cons = some (i, r) ∧ gt s.sl 2 = V.i (m.vars.length + i) ∧ gt s.sl 3 = V.i r)) (WI.loop 1 (by simp) (fun s => ∃ i, i ≤ m.cons.length ∧ gt s.sl 1 = .ptr 0 1 0 0 ∧ gt s.sl 43 = vCons m.cons ∧ gt s.sl 44 = V.i m.cons.length ∧ gt s.sl 45 = V.i i ∧ s.hp = [.mem false [] [m.cells]] ∧ firstBad (fun _ c => conB c m.vars.length) 0 m.cons = firstBad (fun _ c => conB c m.vars.length) i (m.cons.drop i)) (fun s => (m.cons.length - (gt s.sl 45).num).toNat) ?_ ?_) ?_
    · exact ⟨0, by simp [h1, Model.cells, vVars, vCons, vTerms]⟩
    · rintro ⟨sl, hp, bs⟩ ⟨i, hi, h1, h43, h22, h23, rfl, he⟩
      by_cases hil : i < m.cons.length
      · simp [model_Check.b1, h1, h43, h22, h23, hil, Model.cells, vVars, vCons, vTerms, Con.cells, vInts, vIntss]
        refine (con_spec m.cons[i] m.vars.length (hc' _ (List.getElem_mem hil))).use ?_
        rw [firstBad_drop _ hil] at he
        have hw : IntKind.i64.wrap ((i : Int) + 1) = ((i + 1 : Nat) : Int) := by rw [wrap64] <;> omega
        have hw2 : IntKind.i64.wrap ((m.vars.length : Int) + i) = m.vars.length + i := by rw [wrap64] <;> omega
        by_cases hb : conB m.cons[i] m.vars.length = 0
        · rw [if_pos hb] at he
          simp [hb, hw, Model.cells, vVars, vCons, vTerms]
          exact ⟨⟨i + 1, by omega, by omega, he⟩, by omega⟩
        · rw [if_neg hb] at he
          simp [hb, he, hw2]
      · obtain rfl : i = m.cons.length := by omega
        rw [List.drop_length] at he
        simp [model_Check.b1, h1, h22, h23, he, firstBad]
    · rintro e ⟨sl, hp, bs⟩ (⟨rfl, h1, rfl, he⟩ | ⟨rfl, i, r, he, h2, h3⟩)
      · simp [h1, he, Model.cells, vVars, vCons, vTerms]
      · have hC : checkB m = ((m.vars.length : Int) + i, r) := by unfold checkB; rw [if_neg hn, he1]; simp only; rw [if_neg hn2, he]
        simp [h2, h3, hC, model_Check.rs]
  rintro ⟨sl, hp, bs⟩ ⟨h1, rfl, he2⟩
  simp [h1, Model.cells, vVars, vCons, vTerms]
  refine (goal_spec m hg).use ?_
  have hw2 : IntKind.i64.wrap ((m.vars.length : Int) + m.cons.length) = m.vars.length + m.cons.length := by rw [wrap64] <;> omega
  by_cases hb : goalB m = 0
  · have hC : checkB m = (0, 0) := by unfold checkB; rw [if_neg hn, he1]; simp only; rw [if_neg hn2, he2]; simp [hb]
    simp [hb, hC, model_Check.rs]
  · have hC : checkB m = ((m.vars.length : Int) + m.cons.length, goalB m) := by unfold checkB; rw [if_neg hn, he1]; simp only; rw [if_neg hn2, he2]; simp [hb]
    simp [hb, hC, hw2, model_Check.rs]

end Go.Abs.G


namespace Go.Abs.G
open Go.Proofs
set_option linter.unusedVariables false
set_option linter.unusedSimpArgs false
attribute [local simp] I.vc sub merge place

def Dom.add (d : Dom) (k : Nat) : Dom := if k < 32 then { d with a := sett d.a k } else { d with b := sett d.b (k - 32) }
def fillTo (d : Dom) : Nat → Dom
  | 0 => d
  | n + 1 => (fillTo d n).add n
theorem add_from (d : Dom) (k : Nat) : (d.add k).from' = d.from' := by unfold Dom.add; split <;> rfl
theorem add_width (d : Dom) (k : Nat) : (d.add k).width = d.width := by unfold Dom.add; split <;> rfl
theorem add_ok {d : Dom} (k : Nat) (h : d.ok) : (d.add k).ok := by
  unfold Dom.add; split
  · exact ⟨h.f, h.w, sett_lt _ _, h.b⟩
  · exact ⟨h.f, h.w, h.a, sett_lt _ _⟩
theorem fillTo_ok {d : Dom} (h : d.ok) : ∀ n, (fillTo d n).ok
  | 0 => h
  | n + 1 => add_ok _ (fillTo_ok h n)
theorem fillTo_from (d : Dom) : ∀ n, (fillTo d n).from' = d.from'
  | 0 => rfl
  | n + 1 => by simp [fillTo, add_from, fillTo_from d n]
theorem fillTo_width (d : Dom) : ∀ n, (fillTo d n).width = d.width
  | 0 => rfl
  | n + 1 => by simp [fillTo, add_width, fillTo_width d n]
def dom0 (v : Var) : Dom := ⟨v.lo, (v.hi - v.lo + 1).toNat, 0, 0⟩
def domOf (v : Var) : Dom := fillTo (dom0 v) (dom0 v).width
theorem dom0_ok {v : Var} (h : VarOk v) : (dom0 v).ok := by
  obtain ⟨h1, h2, h3, h4⟩ := h
  exact ⟨by simp [dom0]; omega, by simp [dom0]; omega, by simp [dom0], by simp [dom0]⟩
theorem add_row (d : Dom) (k : Nat) (hk : k < 64) : (if k < 32 then [V.i d.from', V.i d.width, V.w (sett d.a k), V.w d.b] else [V.i d.from', V.i d.width, V.w d.a, V.w (sett d.b (k - 32))]) = (d.add k).row := by
  unfold Dom.add; split <;> rfl

def newH (B : O) (s : List Dom) : Heap := [B, .mem false [2, 3] [[.own 2 4 0 s.length s.length, .own 3 1 0 0 0]], .mem false [] (s.map Dom.row), .tree [] []]
def domsOf (m : Model) : List Dom := if (checkB m).2 = 0 then m.vars.map domOf else []

@[simp] theorem vVars_ids (l : List Var) : (vVars l).ids = [] := rfl
@[simp] theorem lim_vVars (n : Nat) (l : List Var) : lim n (vVars l) = vVars l := rfl

theorem new_spec (m : Model) (hm : okModel m) : DC Tryz.prog dom_New.id [.agg m.cells] [] (fun r H => r = .ptr 1 1 0 0 ∧ ∃ B, H = newH B (domsOf m)) := by
  refine DC.trim (Q := fun r H => r = .ptr 1 1 0 0 ∧ ∃ E, H = newH (.mem false [] [m.cells]) (domsOf m) ++ E) ?_ ?_
  rotate_left
  · rintro r H ⟨rfl, E, rfl⟩
    exact ⟨4, by simp, by simp [V.ids], rfl, .mem false [] [m.cells], rfl⟩
  have hc := check_spec m hm
  refine DC.of dom_New.ok (by simp) ?_
  unfold dom_New.ir
  refine vc_cut (fun st => gt st.sl 1 = .ptr 0 1 0 0 ∧ st.hp = [.mem false [] [m.cells]]) (by simp [Model.cells, vVars, vCons, vTerms]) ?_
  rintro ⟨sl, hp, bs⟩ ⟨h1, rfl⟩
  refine vc_cut (fun st => gt st.sl 1 = .ptr 0 1 0 0 ∧ gt st.sl 3 = .ptr 1 1 0 0 ∧ st.hp = [.mem false [] [m.cells], .mem false [] [[nilS, nilS]]]) (by simp [h1]) ?_
  clear h1
  rintro ⟨sl, hp, bs⟩ ⟨h1, h3, rfl⟩
  refine vc_cut (fun st => (checkB m).2 = 0 ∧ gt st.sl 1 = .ptr 0 1 0 0 ∧ gt st.sl 3 = .ptr 1 1 0 0 ∧ st.hp = [.mem false [] [m.cells], .mem false [] [[nilS, nilS]]]) ?_ ?_
  · have hcl : m.cells.length = 4 := rfl
    have htk : m.cells.take 4 = m.cells := rfl
    simp [h1, h3, hcl, htk]
    refine ⟨rfl, hc.use ?_⟩
    by_cases hz : (checkB m).2 = 0
    · simp [hz]
    · simp [hz]
      refine ⟨_, Weak.nil2 (id := 1) (e1 := 4) (e2 := 1) (t := 3) rfl (by simp), ?_⟩
      simp [dom_New.rs, newH, domsOf, hz]
      skip
  clear h1 h3
  rintro ⟨sl, hp, bs⟩ ⟨hz, h1, h3, rfl⟩
  have hR : Right m := right_iff.1 (by simp [rightB, hz])
  have hD : domsOf m = m.vars.map domOf := by simp [domsOf, hz]
  rw [hD]
  refine vc_cut (fun st => gt st.sl 3 = .ptr 1 1 0 0 ∧ st.hp = newH (.mem false [] [m.cells]) (m.vars.map domOf)) ?_ ?_
  · refine vc_cut (fun st => gt st.sl 3 = .ptr 1 1 0 0 ∧ gt st.sl 21 = vVars m.vars ∧ gt st.sl 22 = V.i m.vars.length ∧ gt st.sl 23 = V.i 0 ∧ st.hp = newH (.mem false [] [m.cells]) []) ?_ ?_
    · 
      simp [h1, h3]
      refine ⟨_, Weak.nil2 (id := 1) (e1 := 4) (e2 := 1) (t := 3) rfl (by simp [h3]), ?_⟩
      simp [newH, Model.cells, vVars, h1, h3]
    clear h1 h3
    rintro ⟨sl, hp, bs⟩ ⟨h3, h21, h22, h23, rfl⟩
    simp [h3, h21, h22, h23]
    refine WI.mono (Q := fun e st => e = .exit 0 ∧ gt st.sl 3 = .ptr 1 1 0 0 ∧ st.hp = newH (.mem false [] [m.cells]) (m.vars.map domOf))
      (WI.loop 4 (by simp [newH]) (fun st => ∃ j, j ≤ m.vars.length ∧ gt st.sl 3 = .ptr 1 1 0 0 ∧ gt st.sl 21 = vVars m.vars ∧ gt st.sl 22 = V.i m.vars.length ∧ gt st.sl 23 = V.i j ∧ st.hp = newH (.mem false [] [m.cells]) ((m.vars.take j).map domOf)) (fun st => (m.vars.length - (gt st.sl 23).num).toNat) ?_ ?_) ?_
    · exact ⟨0, by simp [h3, h21, h22, h23]⟩
    · clear h3 h21 h22 h23
      rintro ⟨sl, hp, bs⟩ ⟨j, hj, h3, h21, h22, h23, rfl⟩
      by_cases hjl : j < m.vars.length
      · have hvo := VarOk.of (hR.var j _ (List.getElem?_eq_getElem hjl))
        have hnv := hR.nv
        obtain ⟨v, hv⟩ : ∃ v, v = m.vars[j] := ⟨_, rfl⟩
        rw [← hv] at hvo
        have hw : IntKind.i64.wrap ((j : Int) + 1) = ((j + 1 : Nat) : Int) := by rw [wrap64] <;> omega
        obtain ⟨L, hL⟩ : ∃ L, L = (m.vars.take j).map domOf := ⟨_, rfl⟩
        have hLl : L.length = j := by rw [hL, List.length_map, List.length_take]; omega
        have hT : (m.vars.take (j + 1)).map domOf = L ++ [domOf v] := by
          rw [List.take_succ_eq_append_getElem hjl, List.map_append, ← hL, ← hv]; rfl
        rw [← hL]
        have hμ := h23
        unfold dom_New.b0
        refine vc_cut (fun st => gt st.sl 3 = .ptr 1 1 0 0 ∧ gt st.sl 21 = vVars m.vars ∧ gt st.sl 22 = V.i m.vars.length ∧ gt st.sl 23 = V.i j ∧ gt st.sl 24 = .bool true ∧ st.hp = newH (.mem false [] [m.cells]) L) (by simp [h3, h21, h22, h23, hjl]) ?_
        clear h3 h21 h22 h23
        rintro ⟨sl, hp, bs⟩ ⟨h3, h21, h22, h23, h24, rfl⟩
        refine vc_cut (fun st => gt st.sl 3 = .ptr 1 1 0 0 ∧ gt st.sl 21 = vVars m.vars ∧ gt st.sl 22 = V.i m.vars.length ∧ gt st.sl 23 = V.i j ∧ st.hp = newH (.mem false [] [m.cells]) L) (by simp [h3, h21, h22, h23, h24]) ?_
        clear h3 h21 h22 h23 h24
        rintro ⟨sl, hp, bs⟩ ⟨h3, h21, h22, h23, rfl⟩
        have hvl : v.cells.length = 3 := rfl
        have f1 := hvo.lo
        have f2 := hvo.hi
        have f3 := hvo.le
        have f4 := hvo.dom
        have hok := dom0_ok hvo
        have hw1 : IntKind.i64.wrap (v.hi - v.lo) = v.hi - v.lo := by rw [wrap64] <;> omega
        have hw2 : IntKind.i64.wrap (v.hi - v.lo + 1) = v.hi - v.lo + 1 := by rw [wrap64] <;> omega
        have hwd : ((dom0 v).width : Int) = v.hi - v.lo + 1 := by simp [dom0]; omega
        have hr0 : (dom0 v).row = [V.i v.lo, V.i (v.hi - v.lo + 1), V.w 0, V.w 0] := by rw [← hwd]; rfl
        refine vc_cut (fun st => gt st.sl 3 = .ptr 1 1 0 0 ∧ gt st.sl 21 = vVars m.vars ∧ gt st.sl 22 = V.i m.vars.length ∧ gt st.sl 23 = V.i j ∧ ∃ E, st.hp = newH (.mem false [] [m.cells]) (L ++ [domOf v]) ++ E) ?_ ?_
        · refine vc_cut (fun st => gt st.sl 3 = .ptr 1 1 0 0 ∧ gt st.sl 7 = .ptr 4 1 0 0 ∧ gt st.sl 21 = vVars m.vars ∧ gt st.sl 22 = V.i m.vars.length ∧ gt st.sl 23 = V.i j ∧ st.hp = newH (.mem false [] [m.cells]) L ++ [.mem false [] [v.cells]]) ?_ ?_
          · simp [h3, h21, h22, h23, hjl, vVars, newH, ← hv, Var.cells]
          clear h3 h21 h22 h23
          rintro ⟨sl, hp, bs⟩ ⟨h3, h7, h21, h22, h23, rfl⟩
          refine vc_cut (fun st => gt st.sl 3 = .ptr 1 1 0 0 ∧ gt st.sl 8 = .ptr 5 1 0 0 ∧ gt st.sl 21 = vVars m.vars ∧ gt st.sl 22 = V.i m.vars.length ∧ gt st.sl 23 = V.i j ∧ st.hp = newH (.mem false [] [m.cells]) L ++ [.mem false [] [v.cells], .mem false [] [(dom0 v).row]]) ?_ ?_
          · simp [h3, h7, h21, h22, h23, newH, Var.cells, hw1, hw2, hr0]
          clear h3 h7 h21 h22 h23
          rintro ⟨sl, hp, bs⟩ ⟨h3, h8, h21, h22, h23, rfl⟩
          refine vc_cut (fun st => gt st.sl 3 = .ptr 1 1 0 0 ∧ gt st.sl 8 = .ptr 5 1 0 0 ∧ gt st.sl 21 = vVars m.vars ∧ gt st.sl 22 = V.i m.vars.length ∧ gt st.sl 23 = V.i j ∧ st.hp = newH (.mem false [] [m.cells]) L ++ [.mem false [] [v.cells], .mem false [] [(domOf v).row]]) ?_ ?_
          · obtain ⟨D, hDD⟩ : ∃ D, D = dom0 v := ⟨_, rfl⟩
            have hdo : domOf v = fillTo D D.width := by rw [hDD]; rfl
            rw [hdo, ← hDD]
            rw [← hDD] at hok
            have hwl := hok.w
            simp [h3, h8, h21, h22, h23, newH]
            refine WI.mono (Q := fun e st => e = .exit 2 ∧ gt st.sl 3 = .ptr 1 1 0 0 ∧ gt st.sl 8 = .ptr 5 1 0 0 ∧ gt st.sl 21 = vVars m.vars ∧ gt st.sl 22 = V.i m.vars.length ∧ gt st.sl 23 = V.i j ∧ st.hp = newH (.mem false [] [m.cells]) L ++ [.mem false [] [v.cells], .mem false [] [(fillTo D D.width).row]])
              (WI.loop 6 (by simp) (fun st => ∃ i, i ≤ D.width ∧ gt st.sl 3 = .ptr 1 1 0 0 ∧ gt st.sl 8 = .ptr 5 1 0 0 ∧ gt st.sl 21 = vVars m.vars ∧ gt st.sl 22 = V.i m.vars.length ∧ gt st.sl 23 = V.i j ∧ gt st.sl 37 = V.i D.width ∧ gt st.sl 38 = V.i i ∧ st.hp = newH (.mem false [] [m.cells]) L ++ [.mem false [] [v.cells], .mem false [] [(fillTo D i).row]]) (fun st => (D.width - (gt st.sl 38).num).toNat) ?_ ?_) ?_
            · exact ⟨0, by simp [h3, h8, h21, h22, h23, newH, fillTo]⟩
            · clear h3 h8 h21 h22 h23
              rintro ⟨sl, hp, bs⟩ ⟨i, hi, h3, h8, h21, h22, h23, h37, h38, rfl⟩
              by_cases hil : i < D.width
              · have hwi : IntKind.i64.wrap ((i : Int) + 1) = ((i + 1 : Nat) : Int) := by rw [wrap64] <;> omega
                have ht : ((i : Int).tmod 32) = ((i % 32 : Nat) : Int) := by rw [Int.tmod_eq_emod_of_nonneg (by omega)]; rfl
                have hm' : ((i : Int) % 32).toNat = i % 32 := by omega
                have hp' : 0 ≤ (i : Int) % 32 := by omega
                have hadd := add_row (fillTo D i) i (by omega)
                have hsucc : fillTo D (i + 1) = (fillTo D i).add i := rfl
                by_cases h : i < 32
                · have h1 : IntKind.i64.wrap ((i : Int) / 32) = 0 := by rw [wrap64] <;> omega
                  have h2 : i % 32 = i := by omega
                  rw [if_pos h] at hadd
                  simp [dom_New.b1, newH, ht, hm', hp', h2, h3, h8, h21, h22, h23, h37, h38, hil, hwi, h1, h, bits32, limO, O.refs]
                  refine ⟨⟨i + 1, by omega, by omega, ?_⟩, by omega⟩
                  rw [hsucc, ← hadd]
                  exact congrArg (fun n => [V.i (fillTo D i).from', V.i (fillTo D i).width, V.a (.int .u32 n), V.w (fillTo D i).b]) (sett32 h)
                · have h1 : IntKind.i64.wrap ((i : Int) / 32) = 1 := by rw [wrap64] <;> omega
                  have h2 : i % 32 = i - 32 := by omega
                  have h3' : i - 32 < 32 := by omega
                  rw [if_neg h] at hadd
                  simp [dom_New.b1, newH, ht, hm', hp', h2, h3, h8, h21, h22, h23, h37, h38, hil, hwi, h1, h, bits32, limO, O.refs]
                  refine ⟨⟨i + 1, by omega, by omega, ?_⟩, by omega⟩
                  rw [hsucc, ← hadd]
                  exact congrArg (fun n => [V.i (fillTo D i).from', V.i (fillTo D i).width, V.w (fillTo D i).a, V.a (.int .u32 n)]) (sett32 h3')
              · obtain rfl : i = D.width := by omega
                simp [dom_New.b1, h3, h8, h21, h22, h23, h37, h38]
            · rintro e ⟨sl, hp, bs⟩ ⟨rfl, h3, h8, h21, h22, h23, rfl⟩
              simp [h3, h8, h21, h22, h23, newH]
          clear h3 h8 h21 h22 h23
          rintro ⟨sl, hp, bs⟩ ⟨h3, h8, h21, h22, h23, rfl⟩
          simp [h3, h8, h21, h22, h23, newH, hLl]
          omega
        clear h3 h21 h22 h23
        rintro ⟨sl, hp, bs⟩ ⟨h3, h21, h22, h23, E, rfl⟩
        simp [h3, h21, h22, h23, newH, hLl, hw, hμ, limO, O.refs]
        refine ⟨⟨j + 1, by omega, by omega, by omega, ?_⟩, by omega⟩
        rw [← List.map_take, ← List.map_map, hT]
        simp
      · obtain rfl : j = m.vars.length := by omega
        simp [dom_New.b0, h3, h21, h22, h23]
    · rintro e ⟨sl, hp, bs⟩ ⟨rfl, h3, rfl⟩
      simp [h3]
  clear h1 h3
  rintro ⟨sl, hp, bs⟩ ⟨h3, rfl⟩
  simp [h3, dom_New.rs]
end Go.Abs.G

namespace Go.Abs.G
open Go.Proofs
set_option linter.unusedVariables false
set_option linter.unusedSimpArgs false
attribute [local simp] I.vc

theorem back_in {s : List Dom} {rf : List Nat} {R : List (List V)} {Es : Heap} {i a n : Nat} {A : List (List V)} (hR : R.length ≤ 1000000) (hil : i < R.length) (hRi : R[i] = [.own a 4 0 n n])
    (hA : (Z s rf R ++ Es)[a]? = some (.mem false [] A)) (hn : A.length = n) (ha : a ≠ 0) :
    DC Tryz.prog dom_Store_Back.id [.ptr 0 1 0 0, V.i i] (Z s rf R ++ Es) (fun r H => r = .bool true ∧ ∃ rf0, H = [.mem false rf0 [[.own a 4 0 n n, .own 2 1 0 i R.length]], .mem false [] (s.map Dom.row), .mem false rf R] ++ Es) := by
  refine DC.of dom_Store_Back.ok (by simp) ?_
  unfold dom_Store_Back.ir
  refine vc_cut (fun st => gt st.sl 0 = .ptr 0 1 0 0 ∧ gt st.sl 1 = V.i i ∧ st.hp = Z s rf R ++ Es) (by simp) ?_
  rintro ⟨sl, hp, bs⟩ ⟨h0, h1, rfl⟩
  refine vc_cut (fun st => gt st.sl 0 = .ptr 0 1 0 0 ∧ gt st.sl 1 = V.i i ∧ st.hp = Z s rf R ++ Es) ?_ ?_
  · have hjl' : ¬ R.length ≤ i := by omega
    have hi0 : ¬ (i : Int) < 0 := by omega
    simp [h0, h1, hjl', hi0, hil, dom_Store_Back.rs]
  clear h0 h1
  rintro ⟨sl, hp, bs⟩ ⟨h0, h1, rfl⟩
  have hA' : ∀ o, ((Z s rf R ++ Es).set 0 o)[a]? = some (.mem false [] A) := fun o => by rw [getElem?_set_ne' ha]; exact hA
  have g2 : ∀ o, ((Z s rf R ++ Es).set 0 o)[2]? = some (.mem false rf R) := fun o => rfl
  have g0 : ∀ o, ((Z s rf R ++ Es).set 0 o)[0]? = some o := fun o => rfl
  simp [h0, h1, hil, hRi, hA, hn, g0, g2, hA', dom_Store_Back.rs]
  exact ⟨by omega, _, rfl⟩
theorem back_out {s : List Dom} {rf : List Nat} {R : List (List V)} {Es : Heap} (hR : R.length ≤ 1000000) (j : Int) (hj : ¬ (0 ≤ j ∧ j < R.length)) :
    DC Tryz.prog dom_Store_Back.id [.ptr 0 1 0 0, V.i j] (Z s rf R ++ Es) (fun r H => r = .bool false ∧ H = Z s rf R ++ Es) := by
  refine DC.of dom_Store_Back.ok (by simp) ?_
  unfold dom_Store_Back.ir
  refine vc_cut (fun st => gt st.sl 0 = .ptr 0 1 0 0 ∧ gt st.sl 1 = V.i j ∧ st.hp = Z s rf R ++ Es) (by simp) ?_
  rintro ⟨sl, hp, bs⟩ ⟨h0, h1, rfl⟩
  refine vc_cut (fun st => False) ?_ (by rintro s h; exact h.elim)
  by_cases h : 0 ≤ j
  · obtain ⟨i, rfl⟩ : ∃ i : Nat, j = i := ⟨j.toNat, by omega⟩
    have hj' : ¬ (i : Int) < 0 := by omega
    have hjl' : R.length ≤ i := by omega
    simp [h0, h1, hj', hjl', dom_Store_Back.rs]
  · have hj' : j < 0 := by omega
    simp [h0, h1, hj', dom_Store_Back.rs]
end Go.Abs.G

namespace Go.Abs.G
open Go.Proofs
set_option linter.unusedVariables false
set_option linter.unusedSimpArgs false
attribute [local simp] I.vc

theorem mT_len (ms : List (List Dom)) : (mT ms).length = ms.length := by simp [mT]

theorem back_no {s : List Dom} {ms : List (List Dom)} (hm : ms.length ≤ 1000000) (j : Int) (hj : ¬ (0 ≤ j ∧ j < ms.length)) :
    DC Tryz.prog dom_Store_Back.id [.ptr 0 1 0 0, V.i j] [St1 s (mT ms)] (fun r H => r = .bool false ∧ H = [St1 s (mT ms)]) := by
  refine DC.packed (mT_ids ms) (mT_ids ms) (Q := fun r => r = .bool false) ?_ (by rintro r rfl; rfl)
  refine DC.trim (Q := fun r H => r = .bool false ∧ (H.take 3).map (limO 3) = U s (mT ms)) ?_ ?_
  rotate_left
  · rintro r H ⟨rfl, h⟩
    exact ⟨3, by simp, by simp [V.ids], rfl, h⟩
  refine DC.pre step_open (DC.post' (back_out (by rw [rowsOf_len]; exact hm) j (by rw [rowsOf_len]; exact hj)) ?_)
  rintro x H1 ⟨rfl, rfl⟩ w β F vs hk hr
  have e : objsOf ms = objsOf ms ++ [] := by simp
  rw [e] at hk hr ⊢
  obtain ⟨β2, H2, a2, hH⟩ := close_marks (q := 1) hk hr rfl
  exact ⟨β2, H2, a2, rfl, hH⟩

theorem mark_packed {s : List Dom} {ms : List (List Dom)} (hs : s.length ≤ 64) (hm : ms.length ≤ 1000000) :
    DC Tryz.prog dom_Store_Mark.id [.ptr 0 1 0 0] [St1 s (mT ms)] (fun r H => r = V.i ms.length ∧ H = [St1 s (mT (ms ++ [s]))]) :=
  DC.packed (mT_ids ms) (mT_ids _) (Q := fun r => r = V.i ms.length) (mark_spec hs hm) (by rintro r rfl; rfl)
end Go.Abs.G

namespace Go.Abs.G
open Go.Proofs
set_option linter.unusedVariables false
set_option linter.unusedSimpArgs false
attribute [local simp] I.vc

theorem lo_of_tree' {w : World} {F : Nat → Prop} {β : Nat → Hd} {H : Heap} {p c i j es l k : Nat} {refs : List Nat} {rows : List (List Ce)} {row : List Ce} (hk : HOK w.heap H β F) (hp : H[p]? = some (.tree refs rows))
    (hi : rows[i]? = some row) (hj : row[j]? = some (.v (.own c es 0 l k))) (hc : hdOf H β c = some ((β c).wt k)) : (β c).lo = 0 := by
  rcases hk.ro p _ hp with hr | ⟨q1, q2, q3, q4, q5⟩
  · rw [hr.2.1] at hi; simp at hi
  · obtain ⟨u, Sx, hx, _⟩ := q4.cell hi hj
    have := hx.val
    cases this with
    | own hl hh => exact Nat.le_zero.1 ((hh _ hc).2 rfl).1

theorem step_kid {xs : List V} {s L : List Dom} {ms : List (List Dom)} {rf : List Nat} {R : List (List V)} {i : Nat} (hi : ms[i]? = some L) :
    Step xs (Z s rf R ++ objsOf ms) (Z s rf R ++ (objsOf ms).set i (.mem false [] (L.map Dom.row))) := fun w β F vs hk hr => by
  have g : (Z s rf R ++ objsOf ms)[3 + i]? = some (.tree [] (flatC (L.map Dom.row))) := by
    rw [List.getElem?_append_right (by simp), Z_len, ← domCe_flat]
    have : 3 + i - 3 = i := by omega
    rw [this]; simp [objsOf, hi]
  obtain ⟨β', a⟩ := adv_toMem hk g
  have e : (Z s rf R ++ objsOf ms).set (3 + i) (.mem false [] (L.map Dom.row)) = Z s rf R ++ (objsOf ms).set i (.mem false [] (L.map Dom.row)) := by
    rw [List.set_append, if_neg (by simp)]
    have : 3 + i - (Z s rf R).length = i := by simp
    rw [this]
  rw [e] at a
  exact ⟨β', a⟩

theorem kids_get (es : Nat) : ∀ (n : Nat) (l : List (List (List Ce))) (i : Nat) (L : List (List Ce)), l[i]? = some L → (kids es n l)[i]? = some ⟨n + i, es, [], L⟩
  | _, [], i, L, h => by simp at h
  | n, M :: l, 0, L, h => by simp at h; subst h; rfl
  | n, M :: l, i + 1, L, h => by
    have := kids_get es (n + 1) l i L (by simpa using h)
    simp only [kids, List.getElem?_cons_succ, this]
    have e : n + 1 + i = n + (i + 1) := by omega
    rw [e]
end Go.Abs.G

namespace Go.Abs.G
open Go.Proofs
set_option linter.unusedVariables false
set_option linter.unusedSimpArgs false
attribute [local simp] I.vc

theorem close_back {w : World} {β : Nat → Hd} {F : Nat → Prop} {vs : Array Value} {xs : List V} {s L : List Dom} {ms : List (List Dom)} {rf rf0 : List Nat} {i q : Nat} (hi : ms[i]? = some L)
    (hk : HOK w.heap ([.mem false rf0 [[.own (3 + i) 4 0 L.length L.length, .own 2 1 0 i ms.length]], .mem false [] (s.map Dom.row), .mem false rf (rowsOf' ms)] ++ (objsOf ms).set i (.mem false [] (L.map Dom.row))) β F)
    (hr : RVs (cx w.heap ([.mem false rf0 [[.own (3 + i) 4 0 L.length L.length, .own 2 1 0 i ms.length]], .mem false [] (s.map Dom.row), .mem false rf (rowsOf' ms)] ++ (objsOf ms).set i (.mem false [] (L.map Dom.row))) β F) vs xs) (hq : xs[q]? = some (.ptr 0 1 0 0)) :
    ∃ β' H2, Adv F w ([.mem false rf0 [[.own (3 + i) 4 0 L.length L.length, .own 2 1 0 i ms.length]], .mem false [] (s.map Dom.row), .mem false rf (rowsOf' ms)] ++ (objsOf ms).set i (.mem false [] (L.map Dom.row))) β w H2 β' ∧ H2[0]? = some (St1 L (mT (ms.take i))) := by
  have hil := lt_of_get hi
  have hol : (objsOf ms).length = ms.length := by simp [objsOf]
  have l0 := lo_arg hr hq rfl
  generalize hH : ([.mem false rf0 [[.own (3 + i) 4 0 L.length L.length, .own 2 1 0 i ms.length]], .mem false [] (s.map Dom.row), .mem false rf (rowsOf' ms)] ++ (objsOf ms).set i (.mem false [] (L.map Dom.row)) : Heap) = H at hk hr l0
  have h0 : H[0]? = some (.mem false rf0 [[.own (3 + i) 4 0 L.length L.length, .own 2 1 0 i ms.length]]) := by rw [← hH]; rfl
  have h2 : H[2]? = some (.mem false rf (rowsOf' ms)) := by rw [← hH]; rfl
  have hkid : ∀ j, j < ms.length → j ≠ i → H[3 + j]? = (ms[j]?).map fun M => O.tree [] (M.map domCe) := fun j hj hne => by
    rw [← hH, List.getElem?_append_right (by simp)]
    have : 3 + j - [O.mem false rf0 [[.own (3 + i) 4 0 L.length L.length, .own 2 1 0 i ms.length]], .mem false [] (s.map Dom.row), .mem false rf (rowsOf' ms)].length = j := by simp
    rw [this, getElem?_set_ne' hne]; simp [objsOf]
  have ha : H[3 + i]? = some (.mem false [] (L.map Dom.row)) := by
    rw [← hH, List.getElem?_append_right (by simp)]
    have : 3 + i - [O.mem false rf0 [[.own (3 + i) 4 0 L.length L.length, .own 2 1 0 i ms.length]], .mem false [] (s.map Dom.row), .mem false rf (rowsOf' ms)].length = i := by simp
    rw [this, List.getElem?_set_self (by rw [hol]; exact hil)]
  clear hH
  -- the struct
  obtain ⟨β1, a1⟩ := adv_toTree hk h0 l0
  have p1 := get_set (y := O.tree rf0 (flatC [[.own (3 + i) 4 0 L.length L.length, .own 2 1 0 i ms.length]])) h0
  have m1 : (H.set 0 (O.tree rf0 (flatC [[.own (3 + i) 4 0 L.length L.length, .own 2 1 0 i ms.length]])))[2]? = some (.mem false rf (rowsOf' ms)) := by rw [getElem?_set_ne' (by omega)]; exact h2
  have k1 : (H.set 0 (O.tree rf0 (flatC [[.own (3 + i) 4 0 L.length L.length, .own 2 1 0 i ms.length]])))[3 + i]? = some (.mem false [] (L.map Dom.row)) := by rw [getElem?_set_ne' (by omega)]; exact ha
  have o1 : ∀ j, j < ms.length → j ≠ i → (H.set 0 (O.tree rf0 (flatC [[.own (3 + i) 4 0 L.length L.length, .own 2 1 0 i ms.length]])))[3 + j]? = (ms[j]?).map fun M => O.tree [] (M.map domCe) := fun j hj hne => by rw [getElem?_set_ne' (by omega)]; exact hkid j hj hne
  generalize H.set 0 (O.tree rf0 (flatC [[.own (3 + i) 4 0 L.length L.length, .own 2 1 0 i ms.length]])) = H1 at a1 p1 m1 k1 o1
  -- the marks
  have l2 : (β1 2).lo = 0 := lo_of_tree' (i := 0) (j := 1) (l := i) (k := ms.length) a1.hok p1 rfl rfl (by unfold hdOf; rw [m1]; simp [rowsOf_len])
  obtain ⟨β2, a2⟩ := adv_toTree a1.hok m1 l2
  rw [rows_flat] at a2
  have p2 : (H1.set 2 (O.tree rf ((kidsOf ms).map Kid.own)))[0]? = some (O.tree rf0 (flatC [[.own (3 + i) 4 0 L.length L.length, .own 2 1 0 i ms.length]])) := by rw [getElem?_set_ne' (by omega)]; exact p1
  have m2 : (H1.set 2 (O.tree rf ((kidsOf ms).map Kid.own)))[2]? = some (O.tree rf ((kidsOf ms).map Kid.own)) := get_set m1
  have k2 : (H1.set 2 (O.tree rf ((kidsOf ms).map Kid.own)))[3 + i]? = some (.mem false [] (L.map Dom.row)) := by rw [getElem?_set_ne' (by omega)]; exact k1
  have o2 : ∀ j, j < ms.length → j ≠ i → (H1.set 2 (O.tree rf ((kidsOf ms).map Kid.own)))[3 + j]? = (ms[j]?).map fun M => O.tree [] (M.map domCe) := fun j hj hne => by rw [getElem?_set_ne' (by omega)]; exact o1 j hj hne
  generalize H1.set 2 (O.tree rf ((kidsOf ms).map Kid.own)) = H2 at a2 p2 m2 k2 o2
  -- the kid
  have la : (β2 (3 + i)).lo = 0 := lo_of_tree' (i := 0) (j := 0) a2.hok p2 rfl rfl (by unfold hdOf; rw [k2]; simp)
  obtain ⟨β3, a3⟩ := adv_toTree a2.hok k2 la
  rw [← domCe_flat] at a3
  have p3 : (H2.set (3 + i) (O.tree [] (L.map domCe)))[0]? = some (O.tree rf0 (flatC [[.own (3 + i) 4 0 L.length L.length, .own 2 1 0 i ms.length]])) := by rw [getElem?_set_ne' (by omega)]; exact p2
  have m3 : (H2.set (3 + i) (O.tree [] (L.map domCe)))[2]? = some (O.tree rf ((kidsOf ms).map Kid.own)) := by rw [getElem?_set_ne' (by omega)]; exact m2
  have k3 : (H2.set (3 + i) (O.tree [] (L.map domCe)))[3 + i]? = some (O.tree [] (L.map domCe)) := get_set k2
  have o3 : ∀ j, j < ms.length → j ≠ i → (H2.set (3 + i) (O.tree [] (L.map domCe)))[3 + j]? = (ms[j]?).map fun M => O.tree [] (M.map domCe) := fun j hj hne => by rw [getElem?_set_ne' (by omega)]; exact o2 j hj hne
  generalize H2.set (3 + i) (O.tree [] (L.map domCe)) = H3 at a3 p3 m3 k3 o3
  -- the kids below
  have hsplit : (kidsOf ms).map Kid.own = ([] : List Kid).map Kid.nest ++ ((kidsOf ms).take i).map Kid.own ++ ((kidsOf ms).drop i).map Kid.own := by
    rw [List.map_nil, List.nil_append, ← List.map_append, List.take_append_drop]
  rw [hsplit] at m3
  have hids : ((kidsOf ms).take i).map Kid.id = List.range' 3 i := by
    have hsp : List.range' 3 ms.length = List.range' 3 i ++ List.range' (3 + i) (ms.length - i) := by
      rw [List.range'_append_1]; congr 1; omega
    rw [List.map_take]; unfold kidsOf; rw [kids_ids, List.length_map, hsp, List.take_append_of_le_length (by simp), List.take_of_length_le (by simp)]
  obtain ⟨β4, H4, rf4, a4, m4, _, o4⟩ := adv_packSome ((kidsOf ms).take i) [] H3 β3 rf a3.hok m3 (fun c hc => by
    obtain ⟨j, hj⟩ := List.mem_iff_getElem?.1 hc
    rw [List.getElem?_take] at hj
    split at hj
    · next hji =>
      have hjl : j < ms.length := by omega
      have hg := kids_get 4 3 (ms.map fun M => M.map domCe) j (ms[j].map domCe) (by simp [hjl])
      have hj' : (kids 4 3 (ms.map fun M => M.map domCe))[j]? = some c := hj
      rw [hg] at hj'
      cases hj'
      refine ⟨?_, by show 3 + j ≠ 2; omega⟩
      show H3[3 + j]? = _
      rw [o3 j hjl (by omega)]; simp [hjl]
    · cases hj) (by rw [hids]; exact List.nodup_range')
  have hnot : ∀ j, (j < 3 ∨ 3 + i ≤ j) → j ∉ ((kidsOf ms).take i).map Kid.id := fun j hj h => by
    rw [hids, List.mem_range'_1] at h; omega
  have p4 : H4[0]? = some (O.tree rf0 [[.v (.own (3 + i) 4 0 L.length L.length), .v (.own 2 1 0 i ms.length)]]) := by rw [o4 0 (by omega) (hnot 0 (by omega))]; exact p3
  have k4 : H4[3 + i]? = some (O.tree [] (L.map domCe)) := by rw [o4 (3 + i) (by omega) (hnot (3 + i) (by omega))]; exact k3
  -- packed
  obtain ⟨β5, a5⟩ := adv_pack (i := 0) (j := 0) a4.hok p4 k4 (by omega) rfl rfl (by simp)
  generalize hP5 : O.tree (rf0 ++ []) _ = P5 at a5
  have p5 : ((H4.set (3 + i) O.dead).set 0 P5)[0]? = some (.tree (rf0 ++ []) [[.n 4 (L.map domCe), .v (.own 2 1 0 i ms.length)]]) := by rw [get_set (x := _) (by rw [getElem?_set_ne' (by omega)]; exact p4), ← hP5]; rfl
  have m5 : ((H4.set (3 + i) O.dead).set 0 P5)[2]? = some (O.tree rf4 (([] ++ (kidsOf ms).take i).map Kid.nest ++ ((kidsOf ms).drop i).map Kid.own)) := by rw [getElem?_set_ne' (by omega), getElem?_set_ne' (by omega)]; exact m4
  generalize (H4.set (3 + i) O.dead).set 0 P5 = H5 at a5 p5 m5
  have hkl : (kidsOf ms).length = ms.length := by unfold kidsOf; rw [kids_len, List.length_map]
  obtain ⟨β6, a6⟩ := adv_packT (i := 0) (j := 1) (l := i) (k := ms.length) a5.hok p5 m5 (by omega) rfl rfl (by simp [hkl]; omega) (by omega)
  have ht : (([] ++ (kidsOf ms).take i).map Kid.nest ++ ((kidsOf ms).drop i).map Kid.own).take i = mT (ms.take i) := by
    rw [List.take_append_of_le_length (by simp [hkl]; omega), List.nil_append, List.take_of_length_le (by simp; omega), List.map_take]
    unfold kidsOf; rw [kids_L]; simp [mT, List.map_take, Function.comp_def]
  rw [ht] at a6
  generalize hP6 : O.tree (rf0 ++ [] ++ rf4) _ = P6 at a6
  have p6 : ((H5.set 2 O.dead).set 0 P6)[0]? = some (.tree (rf0 ++ [] ++ rf4) [[.n 4 (L.map domCe), .n 1 (mT (ms.take i))]]) := by rw [get_set (x := _) (by rw [getElem?_set_ne' (by omega)]; exact p5), ← hP6]; rfl
  generalize (H5.set 2 O.dead).set 0 P6 = H6 at a6 p6
  obtain ⟨β7, a7⟩ := adv_refsT (refs' := []) a6.hok p6 (by simp [Ce.idsR, Ce.idsL, Ce.ids, domCe_ids, mT_ids])
  exact ⟨β7, _, a1.trans (a2.trans (a3.trans (a4.trans (a5.trans (a6.trans a7))))), get_set p6⟩
end Go.Abs.G

namespace Go.Abs.G
open Go.Proofs
set_option linter.unusedVariables false
set_option linter.unusedSimpArgs false
attribute [local simp] I.vc

theorem back_yes {s L : List Dom} {ms : List (List Dom)} {i : Nat} (hm : ms.length ≤ 1000000) (hi : ms[i]? = some L) :
    DC Tryz.prog dom_Store_Back.id [.ptr 0 1 0 0, V.i i] [St1 s (mT ms)] (fun r H => r = .bool true ∧ H = [St1 L (mT (ms.take i))]) := by
  have hil := lt_of_get hi
  have hol : (objsOf ms).length = ms.length := by simp [objsOf]
  have hR : (rowsOf' ms)[i]? = some [.own (3 + i) 4 0 L.length L.length] := by
    have := kids_get 4 3 (ms.map fun M => M.map domCe) i (L.map domCe) (by simp [hi])
    simp only [rowsOf', kidsOf, List.getElem?_map, this]; simp
  have hA : (Z s (List.range' 3 ms.length) (rowsOf' ms) ++ (objsOf ms).set i (.mem false [] (L.map Dom.row)))[3 + i]? = some (.mem false [] (L.map Dom.row)) := by
    rw [List.getElem?_append_right (by simp)]
    have : 3 + i - (Z s (List.range' 3 ms.length) (rowsOf' ms)).length = i := by simp
    rw [this, List.getElem?_set_self (by rw [hol]; exact hil)]
  have hb := back_in (s := s) (rf := List.range' 3 ms.length) (R := rowsOf' ms) (Es := (objsOf ms).set i (.mem false [] (L.map Dom.row))) (i := i) (a := 3 + i) (n := L.length) (A := L.map Dom.row) (by rw [rowsOf_len]; exact hm) (by rw [rowsOf_len]; exact hil) (List.getElem?_eq_some_iff.1 hR).2 hA (by simp) (by omega)
  rw [rowsOf_len] at hb
  refine DC.trim (Q := fun r H => r = .bool true ∧ H[0]? = some (St1 L (mT (ms.take i)))) ?_ ?_
  rotate_left
  · rintro r H ⟨rfl, h2⟩
    refine ⟨1, by simp, by simp [V.ids], rfl, ?_⟩
    match H, h2 with
    | x :: tl, h2 =>
      simp at h2
      subst h2
      simp [St1, limO, O.refs]
  refine DC.pre (open_store (mT_ids ms)) (DC.pre step_open (DC.pre (step_kid hi) (DC.post' hb ?_)))
  rintro x H1 ⟨rfl, rf0, rfl⟩ w β F vs hk hr
  obtain ⟨β', H2, a, h2⟩ := close_back (q := 1) hi hk hr rfl
  exact ⟨β', H2, a, rfl, h2⟩
end Go.Abs.G

namespace Go.Abs.G
open Go.Proofs
set_option linter.unusedVariables false
set_option linter.unusedSimpArgs false
attribute [local simp] I.vc

theorem domCe_ren (f : Nat → Nat) (L : List Dom) : Ce.renR f (L.map domCe) = L.map domCe := by
  induction L with
  | nil => rfl
  | cons d L ih =>
    have : Ce.renL f (domCe d) = domCe d := rfl
    simp [Ce.renR, this, ih]
theorem mT_ren (f : Nat → Nat) (ms : List (List Dom)) : Ce.renR f (mT ms) = mT ms := by
  induction ms with
  | nil => rfl
  | cons L ms ih =>
    have h : Ce.renR f (ms.map fun L => [Ce.n 4 (L.map domCe)]) = ms.map fun L => [Ce.n 4 (L.map domCe)] := ih
    simp [mT, Ce.renR, Ce.renL, Ce.ren, domCe_ren, h]
structure SOk (s : List Dom) (ms : List (List Dom)) : Prop where
  n : s.length ≤ 64
  k : ms.length ≤ 1000000
  d : ∀ d ∈ s, d.ok
theorem SOk.st {s : List Dom} {ms : List (List Dom)} (h : SOk s ms) : StOk s (mT ms) := ⟨h.n, by rw [mT_len]; exact h.k, h.d, fun f => mT_ren f ms⟩

section
variable {s : List Dom} {ms : List (List Dom)} (h : SOk s ms)
include h
theorem varsP : DC Tryz.prog dom_Store_Vars.id [.ptr 0 1 0 0] [St1 s (mT ms)] fun r H => r = V.i s.length ∧ H = [St1 s (mT ms)] :=
  DC.packed (mT_ids ms) (mT_ids ms) (Q := fun r => r = V.i s.length) (vars_spec h.st) (by rintro r rfl; rfl)
theorem sizeP (x : Int) : DC Tryz.prog dom_Store_Size.id [.ptr 0 1 0 0, V.i x] [St1 s (mT ms)] fun r H => r = V.i (if isB s x then (((s[x.toNat]?).map Dom.size).getD 0 : Nat) else 0 : Int) ∧ H = [St1 s (mT ms)] :=
  DC.packed (mT_ids ms) (mT_ids ms) (Q := fun r => r = V.i (if isB s x then (((s[x.toNat]?).map Dom.size).getD 0 : Nat) else 0 : Int)) (sizeS_spec h.st x) (by rintro r rfl; rfl)
theorem hasP (x v : Int) (hv : I64 v) : DC Tryz.prog dom_Store_Has.id [.ptr 0 1 0 0, V.i x, V.i v] [St1 s (mT ms)] fun r H => r = .bool (hasB s x v) ∧ H = [St1 s (mT ms)] :=
  DC.packed (mT_ids ms) (mT_ids ms) (Q := fun r => r = .bool (hasB s x v)) (hasS_spec h.st x v hv) (by rintro r rfl; rfl)
theorem valuesP (x : Int) : DC Tryz.prog dom_Store_Values.id [.ptr 0 1 0 0, V.i x] [St1 s (mT ms)] fun r H => r = vInts (valsB s x) ∧ H = [St1 s (mT ms)] :=
  DC.packed (mT_ids ms) (mT_ids ms) (Q := fun r => r = vInts (valsB s x)) (values_spec h.st x) (by rintro r rfl; rfl)
theorem openP : DC Tryz.prog dom_Store_Open.id [.ptr 0 1 0 0] [St1 s (mT ms)] fun r H => r = vInts (openB s s.length) ∧ H = [St1 s (mT ms)] :=
  DC.packed (mT_ids ms) (mT_ids ms) (Q := fun r => r = vInts (openB s s.length)) (open_spec h.st) (by rintro r rfl; rfl)
theorem cutP (k x v : Int) : DC Tryz.prog dom_Store_Cut.id [.ptr 0 1 0 0, .agg [V.i k, V.i x, V.i v]] [St1 s (mT ms)] fun r H => r = .tup [.bool (cutS s k x v).2.1, .bool (cutS s k x v).2.2] ∧ H = [St1 (cutS s k x v).1 (mT ms)] :=
  DC.packed (mT_ids ms) (mT_ids ms) (Q := fun r => r = .tup [.bool (cutS s k x v).2.1, .bool (cutS s k x v).2.2]) (cut_spec h.st k x v) (by rintro r rfl; rfl)
theorem loP (x : Int) (hne : isB s x = true → valsB s x ≠ []) : DC Tryz.prog dom_Store_Lo.id [.ptr 0 1 0 0, V.i x] [St1 s (mT ms)] fun r H => r = V.i (if isB s x then (valsB s x).headD 0 else 0) ∧ H = [St1 s (mT ms)] :=
  DC.packed (mT_ids ms) (mT_ids ms) (Q := fun r => r = V.i (if isB s x then (valsB s x).headD 0 else 0)) (lo_spec h.st x hne) (by rintro r rfl; rfl)
theorem hiP (x : Int) (hne : isB s x = true → valsB s x ≠ []) : DC Tryz.prog dom_Store_Hi.id [.ptr 0 1 0 0, V.i x] [St1 s (mT ms)] fun r H => r = V.i (if isB s x then (valsB s x).getLastD 0 else 0) ∧ H = [St1 s (mT ms)] :=
  DC.packed (mT_ids ms) (mT_ids ms) (Q := fun r => r = V.i (if isB s x then (valsB s x).getLastD 0 else 0)) (hi_spec h.st x hne) (by rintro r rfl; rfl)
end
end Go.Abs.G

namespace Go.Abs.G
open Go.Proofs
set_option linter.unusedVariables false
set_option linter.unusedSimpArgs false
attribute [local simp] I.vc

theorem close_storeAt {w : World} {β : Nat → Hd} {F : Nat → Prop} {H : Heap} {s : List Dom} {T : List (List Ce)} {rf rb : List Nat} {p a b : Nat} (hk : HOK w.heap H β F)
    (h0 : H[p]? = some (.mem false rf [[.own a 4 0 s.length s.length, .own b 1 0 T.length T.length]])) (ha : H[a]? = some (.mem false [] (s.map Dom.row))) (hb : H[b]? = some (.tree rb T)) (hT : Ce.idsR T = [])
    (na : a ≠ p) (nb : b ≠ p) (nab : a ≠ b) (hlo : (β p).lo = 0) : ∃ β' H2, Adv F w H β w H2 β' ∧ H2[p]? = some (St1 s T) ∧ H2.length = H.length := by
  obtain ⟨β1, a1⟩ := adv_toTree hk h0 hlo
  generalize hP : O.tree rf (flatC [[.own a 4 0 s.length s.length, .own b 1 0 T.length T.length]]) = P at a1
  have p1 : (H.set p P)[p]? = some (.tree rf [[.v (.own a 4 0 s.length s.length), .v (.own b 1 0 T.length T.length)]]) := by rw [get_set h0, ← hP]; rfl
  have q1 : (H.set p P)[a]? = some (.mem false [] (s.map Dom.row)) := by rw [getElem?_set_ne' na]; exact ha
  have r1 : (H.set p P)[b]? = some (.tree rb T) := by rw [getElem?_set_ne' nb]; exact hb
  have la : (β1 a).lo = 0 := lo_of_tree (i := 0) (j := 0) a1.hok p1 rfl rfl (by unfold hdOf; rw [q1]; simp)
  have hl1 : (H.set p P).length = H.length := List.length_set
  generalize H.set p P = H1 at a1 p1 q1 r1 hl1
  obtain ⟨β2, a2⟩ := adv_toTree a1.hok q1 la
  rw [← domCe_flat] at a2
  have p2 : (H1.set a (.tree [] (s.map domCe)))[p]? = some (.tree rf [[.v (.own a 4 0 s.length s.length), .v (.own b 1 0 T.length T.length)]]) := by rw [getElem?_set_ne' (Ne.symm na)]; exact p1
  have q2 : (H1.set a (.tree [] (s.map domCe)))[a]? = some (.tree [] (s.map domCe)) := get_set q1
  have r2 : (H1.set a (.tree [] (s.map domCe)))[b]? = some (.tree rb T) := by rw [getElem?_set_ne' (Ne.symm nab)]; exact r1
  have hl2 : (H1.set a (.tree [] (s.map domCe))).length = H.length := by rw [List.length_set]; exact hl1
  generalize H1.set a (.tree [] (s.map domCe)) = H2 at a2 p2 q2 r2 hl2
  obtain ⟨β3, a3⟩ := adv_pack (i := 0) (j := 0) a2.hok p2 q2 (Ne.symm na) rfl rfl (by simp)
  generalize hP3 : O.tree (rf ++ []) _ = P3 at a3
  have p3 : ((H2.set a O.dead).set p P3)[p]? = some (.tree (rf ++ []) [[.n 4 (s.map domCe), .v (.own b 1 0 T.length T.length)]]) := by rw [get_set (x := _) (by rw [getElem?_set_ne' (Ne.symm na)]; exact p2), ← hP3]; rfl
  have r3 : ((H2.set a O.dead).set p P3)[b]? = some (.tree rb T) := by rw [getElem?_set_ne' nb, getElem?_set_ne' (Ne.symm nab)]; exact r2
  have hl3 : ((H2.set a O.dead).set p P3).length = H.length := by rw [List.length_set, List.length_set]; exact hl2
  generalize (H2.set a O.dead).set p P3 = H3 at a3 p3 r3 hl3
  obtain ⟨β4, a4⟩ := adv_pack (i := 0) (j := 1) a3.hok p3 r3 (Ne.symm nb) rfl rfl rfl
  generalize hP4 : O.tree (rf ++ [] ++ rb) _ = P4 at a4
  have p4 : ((H3.set b O.dead).set p P4)[p]? = some (.tree (rf ++ [] ++ rb) [[.n 4 (s.map domCe), .n 1 T]]) := by rw [get_set (x := _) (by rw [getElem?_set_ne' (Ne.symm nb)]; exact p3), ← hP4]; rfl
  have hl4 : ((H3.set b O.dead).set p P4).length = H.length := by rw [List.length_set, List.length_set]; exact hl3
  generalize (H3.set b O.dead).set p P4 = H4 at a4 p4 hl4
  obtain ⟨β5, a5⟩ := adv_refsT (refs' := []) a4.hok p4 (by simp [Ce.idsR, Ce.idsL, Ce.ids, domCe_ids, hT])
  exact ⟨β5, _, a1.trans (a2.trans (a3.trans (a4.trans a5))), get_set p4, by rw [List.length_set]; exact hl4⟩

theorem newP (m : Model) (hm : okModel m) : DC Tryz.prog dom_New.id [.agg m.cells] [] (fun r H => r = .ptr 1 1 0 0 ∧ ∃ B, H = [B, St1 (domsOf m) (mT [])]) := by
  refine DC.trim (Q := fun r H => r = .ptr 1 1 0 0 ∧ H[1]? = some (St1 (domsOf m) (mT []))) ?_ ?_
  rotate_left
  · rintro r H ⟨rfl, h2⟩
    refine ⟨2, by simp, by simp [V.ids], rfl, ?_⟩
    match H, h2 with
    | x :: y :: tl, h2 =>
      simp at h2
      subst h2
      exact ⟨limO 2 x, by simp [St1, limO, O.refs]⟩
  refine DC.post' (new_spec m hm) ?_
  rintro x H1 ⟨rfl, B, rfl⟩ w β F vs hk hr
  obtain ⟨β', H2, a, h2, _⟩ := close_storeAt (p := 1) (a := 2) (b := 3) (rf := [2, 3]) (rb := []) (s := domsOf m) (T := mT []) hk rfl rfl rfl (mT_ids []) (by simp) (by simp) (by simp) (lo_arg (i := 0) hr rfl rfl)
  exact ⟨β', H2, a, rfl, h2⟩
end Go.Abs.G

namespace Go.Abs.G
open Go.Proofs
attribute [local simp] I.vc sub merge place
set_option linter.unusedVariables false
set_option linter.unusedSimpArgs false

end Go.Abs.G


namespace Go.Abs.G
open Go.Proofs
attribute [local simp] I.vc sub merge place
set_option linter.unusedVariables false
set_option linter.unusedSimpArgs false

end Go.Abs.G


/- Holds, Solution: what they tell. -/
namespace Go.Abs

structure ConOk (c : Con) (vars : Nat) (n : Needs) : Prop where
  terms : ∀ t ∈ c.terms, TermOk vars t
  termsN : c.terms.length ≤ 64
  xs : ∀ x ∈ c.xs, 0 ≤ x ∧ x < vars
  xsN : c.xs.length ≤ 64
  xs1 : n.xs = true → 1 ≤ c.xs.length
  x : n.x = true → 0 ≤ c.x ∧ c.x < vars
  y : n.y = true → 0 ≤ c.y ∧ c.y < vars
  k : -1000000000 ≤ c.k ∧ c.k ≤ 1000000000
  rowsN : c.rows.length ≤ 64
  tableN : c.table.length ≤ 64

theorem ConOk.of {c : Con} {vars : Nat} {n : Needs} (h : conN c vars n = 0) : ConOk c vars n := by
  unfold conN at h
  split at h
  · cases h
  · split at h
    · cases h
    · next h1 =>
      split at h
      · cases h
      · next h2 =>
        split at h
        · cases h
        · next h3 =>
          split at h
          · cases h
          · next h4 =>
            split at h
            · cases h
            · next h5 =>
              simp only [Bool.or_eq_true, not_or, Bool.not_eq_true', Bool.and_eq_true, not_and, decide_eq_true_eq, Bool.not_eq_false] at h2 h3 h5
              obtain ⟨⟨⟨t1, t2⟩, t3⟩, t4⟩ := h2
              obtain ⟨⟨⟨v1, v2⟩, v3⟩, v4⟩ := h3
              obtain ⟨⟨⟨k1, k2⟩, k3⟩, k4⟩ := h5
              have hf : ∀ {a : Bool} {k : Nat}, fieldB c n = false → (!a && decide (0 < k)) = false → countsB a k = true → k ≤ 64 := by
                intro a k _ h h'
                unfold countsB at h'
                cases a <;> simp at h h' <;> omega
              have hfield : fieldB c n = false := by simpa using h1
              have hfl := hfield
              unfold fieldB at hfl
              simp only [Bool.or_eq_false_iff] at hfl
              obtain ⟨⟨⟨⟨_, f1⟩, f2⟩, f3⟩, f4⟩ := hfl
              refine ⟨TermOk.of (by simpa using v1) (by simpa using h4), hf hfield f1 t1, fun x hx => ?_, hf hfield f2 t2, fun hn => ?_, fun hn => ?_, fun hn => ?_, ?_, ?_, hf hfield f3 t3⟩
              · have := (List.any_eq_false.1 (by simpa using v4 : c.xs.any (noB vars) = false)) x hx
                simp [noB] at this
                omega
              · unfold countsB at t2
                rw [hn] at t2
                simp at t2
                omega
              · have := v2 hn
                simp [noB] at this
                omega
              · have := v3 hn
                simp [noB] at this
                omega
              · simp [withinB] at k1
                omega
              · cases hn : n.rows
                · rw [hn] at f4
                  simp at f4
                  simp [f4]
                · have h5' := t4
                  simp [wideB, hn, countsB] at h5'
                  omega
end Go.Abs

namespace Go.Abs.G
open Go.Proofs
attribute [local simp] I.vc sub merge place
set_option linter.unusedVariables false
set_option linter.unusedSimpArgs false

structure AtOk (f : FuncId) (cap : List V) (g : Int → Int) (vars : Nat) : Prop where
  ok : okFunc Tryz.prog f = true
  ids : V.idsL cap = []
  run : ∀ x : Int, 0 ≤ x → x < vars → DP Tryz.prog f (V.i x :: cap) fun r => r = V.i (g x)
  bound : ∀ x : Int, 0 ≤ x → x < vars → -1000000000 ≤ g x ∧ g x ≤ 1000000000

section
variable {f : FuncId} {cap : List V} {g : Int → Int} {vars : Nat} (A : AtOk f cap g vars)
include A

end
end Go.Abs.G


namespace Go.Abs.G
open Go.Proofs
attribute [local simp] I.vc sub merge place
set_option linter.unusedVariables false
set_option linter.unusedSimpArgs false

theorem equal_spec (a b : List Int) (ha : a.length ≤ maxLen) : Pf Tryz.prog slices_Equal_Lint_int.id [vInts a, vInts b] (.bool (decide (a = b))) := by
  have hm : (maxLen : Int) ≤ 9223372036854775807 := by decide
  refine DC.of slices_Equal_Lint_int.ok (by simp) ?_
  by_cases hl : a.length = b.length
  · have hl' : (a.length : Int) = b.length := by omega
    simp [slices_Equal_Lint_int.ir, slices_Equal_Lint_int.rs, vInts, hl]
    refine WI.mono (Q := fun e s => (e = .exit 0 ∧ a = b) ∨ (e = .ret ∧ a ≠ b ∧ gt s.sl 4 = .bool false)) (WI.loop 0 (by simp) (fun s => ∃ i, i ≤ a.length ∧ gt s.sl 0 = vInts a ∧ gt s.sl 1 = vInts b ∧ gt s.sl 12 = V.i a.length ∧ gt s.sl 13 = V.i i ∧ s.hp = [] ∧ a.take i = b.take i) (fun s => (a.length - (gt s.sl 13).num).toNat) ?_ ?_) ?_
    · exact ⟨0, by simp [vInts, hl]⟩
    · rintro ⟨sl, hp, bs⟩ ⟨i, hi, h0, h1, h12, h13, rfl, he⟩
      by_cases hil : i < a.length
      · have hil2 : i < b.length := by omega
        have hw : IntKind.i64.wrap ((i : Int) + 1) = ((i + 1 : Nat) : Int) := by rw [wrap64] <;> omega
        by_cases hx : a[i] = b[i]
        · have he' : a.take (i + 1) = b.take (i + 1) := by
            rw [List.take_succ_eq_append_getElem hil, List.take_succ_eq_append_getElem hil2, he, hx]
          simp [slices_Equal_Lint_int.b0, h0, h1, h12, h13, vInts, hil, hil2, hx, hw]
          exact ⟨⟨i + 1, by omega, by omega, he'⟩, by omega⟩
        · simp [slices_Equal_Lint_int.b0, h0, h1, h12, h13, vInts, hil, hil2, hx]
          exact fun h => hx (by simp [h])
      · obtain rfl : i = a.length := by omega
        rw [List.take_length, hl, List.take_length] at he
        simp [slices_Equal_Lint_int.b0, h0, h1, h12, h13, he]
    · rintro e ⟨sl, hp, bs⟩ (⟨rfl, he⟩ | ⟨rfl, he, h4⟩)
      · simp [he]
      · simp [he, h4]
  · have hl' : ¬ (a.length : Int) = b.length := by omega
    have hne : a ≠ b := fun h => hl (by rw [h])
    simp [slices_Equal_Lint_int.ir, slices_Equal_Lint_int.rs, vInts, hl, hl', hne]

section
variable {f : FuncId} {cap : List V} {g : Int → Int} {vars : Nat} (A : AtOk f cap g vars)
include A

end
end Go.Abs.G


/- A state in short; loops that count. -/
namespace Go.Abs
set_option linter.unusedVariables false

/-- What slots hold. -/
def Sls : List (Nat × V) → St → Prop
  | [], _ => True
  | [p], s => gt s.sl p.1 = p.2
  | p :: q :: l, s => gt s.sl p.1 = p.2 ∧ Sls (q :: l) s
/-- A state: its heap, and what slots hold. -/
def At (l : List (Nat × V)) (H : Heap) (s : St) : Prop := s.hp = H ∧ Sls l s

@[simp] theorem sls_nil (s : St) : Sls [] s = True := rfl
@[simp] theorem sls_one (p : Nat × V) (s : St) : Sls [p] s = (gt s.sl p.1 = p.2) := rfl
@[simp] theorem sls_cons (p q : Nat × V) (l : List (Nat × V)) (s : St) : Sls (p :: q :: l) s = (gt s.sl p.1 = p.2 ∧ Sls (q :: l) s) := rfl

theorem least {p : Nat → Prop} (h : ∃ n, p n) : ∃ n, p n ∧ ∀ k, p k → n ≤ k := by
  obtain ⟨n, hn⟩ := h
  induction n using Nat.strongRecOn with
  | ind n ih =>
    by_cases h : ∃ k, k < n ∧ p k
    · obtain ⟨k, hk, hp⟩ := h; exact ih k hk hp
    · exact ⟨n, hn, fun k hk => by
        by_cases hkn : n ≤ k
        · exact hkn
        · exact (h ⟨k, by omega, hk⟩).elim⟩

/-- A loop that counts to n, by what holds behind i rounds. -/
theorem WI.upto {P : Program} {c : C} {Q : Ex → St → Prop} {st : St} (m : Nat) (hm : st.hp.length ≤ m) (n : Nat) (I : Nat → St → Prop) (h0 : I 0 st)
    (hr : ∀ i s, i ≤ n → I i s → vc P c (fun e s' => match e with | .norm => i < n ∧ I (i + 1) (s'.trim m) | .exit k => Q (.exit k) s' | .ret => Q .ret s') s) : WI P (.loop c) Q st := by
  classical
  let μ : St → Nat := fun s => if h : ∃ k, k ≤ n ∧ I (n - k) s then Classical.choose (least h) else 0
  refine WI.loop m hm (fun s => ∃ i, i ≤ n ∧ I i s) μ ⟨0, Nat.zero_le _, h0⟩ ?_
  rintro s ⟨i, hi, hI⟩
  have hx : ∃ k, k ≤ n ∧ I (n - k) s := ⟨n - i, by omega, by rw [show n - (n - i) = i from by omega]; exact hI⟩
  obtain ⟨⟨k1, k2⟩, k3⟩ := Classical.choose_spec (least hx)
  have hμ : μ s = Classical.choose (least hx) := dif_pos hx
  rw [hμ]
  generalize Classical.choose (least hx) = k at *
  refine vc_mono (fun e s' he => ?_) (hr (n - k) s (by omega) k2)
  cases e with
  | norm =>
    obtain ⟨e1, e2⟩ := he
    refine ⟨⟨_, by omega, e2⟩, ?_⟩
    have hy : ∃ q, q ≤ n ∧ I (n - q) (s'.trim m) := ⟨k - 1, by omega, by rw [show n - (k - 1) = n - k + 1 from by omega]; exact e2⟩
    have hμ' : μ (s'.trim m) = Classical.choose (least hy) := dif_pos hy
    rw [hμ']
    have := (Classical.choose_spec (least hy)).2 (k - 1) ⟨by omega, by rw [show n - (k - 1) = n - k + 1 from by omega]; exact e2⟩
    omega
  | exit j => exact he
  | ret => exact he

/-- The same, of what comes behind. -/
theorem vc_upto {P : Program} {c : C} {Q : Ex → St → Prop} {st : St} (m : Nat) (hm : st.hp.length ≤ m) (n : Nat) (I : Nat → St → Prop) (h0 : I 0 st)
    (hr : ∀ i s, i ≤ n → I i s → vc P c (fun e s' => match e with | .norm => i < n ∧ I (i + 1) (s'.trim m) | .exit k => Q (.exit k) s' | .ret => Q .ret s') s) : vc P (.loop c) Q st := WI.upto m hm n I h0 hr

/-- A contract that gives just this, over just this. -/
theorem DC.to {P : Program} {f : FuncId} {xs : List V} {H : Heap} {r : V} {H' : Heap} {Q : V → Heap → Prop} (h : DC P f xs H fun x K => x = r ∧ K = H') (hq : Q r H') : DC P f xs H Q :=
  DC.mono h fun x K ⟨a, b⟩ => by rw [a, b]; exact hq

/-! What each operation asks, but for calls. -/
section
variable {P : Program} {k : St → Prop} {st : St} {d : Option Nat} {x y v n m key : Operand} {l : L} {t es r len bytes : Nat} {ts ap : List Nat} {zero : List V} {parts : List (Nat × Operand)} {kd : IntKind}
@[simp] theorem vc_lt : I.vc P (.lt d l) k st = (l.pre st ∧ k (st.put d (l.val st))) := rfl
@[simp] theorem vc_frz : I.vc P (.frz t) k st = (if (gt st.sl t).ids = [] then k st else (gt st.sl t).fzP st.hp ∧ k { st with sl := up st.sl t ((gt st.sl t).fz st.hp), hp := st.hp.fz (gt st.sl t).ids }) := rfl
@[simp] theorem vc_nilv : I.vc P (.nilv t es) k st = k { st with sl := up st.sl t (if (gt st.sl t).nilSl then .view es [] else gt st.sl t) } := rfl
@[simp] theorem vc_keep : I.vc P (.keep ts) k st = k { st with sl := keepS st.sl ts } := rfl
@[simp] theorem vc_wk : I.vc P .wk k st = (∃ st', Weak st st' ∧ k st') := rfl
@[simp] theorem vc_alloc : I.vc P (.alloc d r len zero) k st = (st.hp[st.bs + r]? = some .res ∧ zero.length = len ∧ k ({ st with hp := st.hp.set (st.bs + r) (.mem false [] [zero]) }.put d (.ptr (st.bs + r) 1 0 0))) := rfl
@[simp] theorem vc_box : I.vc P (.box d r len x) k st = (st.hp[st.bs + r]? = some .res ∧ (st.ev x).sized st.hp len ∧
      k ({ st with hp := st.hp.set (st.bs + r) (.mem false (V.idsL (st.ev x).cells) [(st.ev x).cells]) }.put d (.ptr (st.bs + r) 1 0 0))) := rfl
@[simp] theorem vc_bsl : I.vc P (.bsl d r es len zero parts) k st = (st.hp[st.bs + r]? = some .res ∧ zero.length = es ∧ (∀ p ∈ parts, (st.ev p.2).sized st.hp es ∧ p.1 < len) ∧
      k ({ st with hp := st.hp.set (st.bs + r) (.mem false (V.idsL (fillV (List.flatten (List.replicate len zero)) (parts.map fun (p : Nat × Operand) => (p.1 * es, es, st.ev p.2)))) (chunk es len (fillV (List.flatten (List.replicate len zero)) (parts.map fun (p : Nat × Operand) => (p.1 * es, es, st.ev p.2))))) }.put d (.own (st.bs + r) es 0 len len))) := rfl
@[simp] theorem vc_bsv : I.vc P (.bsv d es len zero parts) k st = (zero.length = es ∧ (∀ p ∈ parts, V.idsL (st.ev p.2).cells = [] ∧ (st.ev p.2).sized st.hp es ∧ p.1 < len) ∧
      k (st.put d (I.bsvV es len zero (parts.map fun (p : Nat × Operand) => (p.1 * es, es, st.ev p.2))))) := rfl
@[simp] theorem vc_mkm : I.vc P (.mkm d r) k st = (st.hp[st.bs + r]? = some .res ∧ k ({ st with hp := st.hp.set (st.bs + r) (.map false [] []) }.put d (.mp (st.bs + r)))) := rfl
@[simp] theorem vc_mks : I.vc P (.mks d r es bytes zero n) k st = (st.hp[st.bs + r]? = some .res ∧ zero.length = es ∧ (∃ m, st.ev n = .a (.int .i64 m)) ∧ 0 ≤ (st.ev n).num ∧ (st.ev n).num * bytes ≤ 140737488355328 ∧
      k ({ st with hp := st.hp.set (st.bs + r) (.mem false [] (List.replicate (st.ev n).num.toNat zero)) }.put d (.own (st.bs + r) es 0 (st.ev n).num.toNat (st.ev n).num.toNat))) := rfl
@[simp] theorem vc_pan : I.vc P .pan k st = False := rfl
@[simp] theorem vc_store : I.vc P (.store ap len x v) k st = (match st.ev x with
    | .ptr id tot i j => match st.hp.getD id .dead with
      | .mem false refs rows => (∀ t ∈ ap, (gt st.sl t).oid ≠ some id) ∧ rows.length = tot ∧ i < tot ∧ j + len ≤ (rows.getD i []).length ∧ (st.ev v).sized st.hp len ∧
          k { st with hp := st.hp.set id (.mem false (addRefs refs (V.idsL (st.ev v).cells)) (rows.set i (rowSet (rows.getD i []) j (st.ev v).cells))) }
      | _ => False
    | _ => False) := rfl
@[simp] theorem vc_app : I.vc P (.app ap d r es bytes x y) k st = (match st.ev x with
    | .own id es' off len tot => match st.hp.getD id .dead with
      | .mem false refs rows => (∀ t ∈ ap, (gt st.sl t).oid ≠ some id) ∧ es' = es ∧ rows.length = tot ∧ off + len = tot ∧ okSl st.hp (st.ev y) ∧ (st.ev y).slEs es ∧ ((len : Int) + (st.ev y).slLen) * bytes ≤ 140737488355328 ∧
          k ({ st with hp := st.hp.set id (.mem false (addRefs refs ((st.ev y).rowIds st.hp)) (rows ++ (st.ev y).rowsOf st.hp)) }.put d (.own id es off (len + ((st.ev y).rowsOf st.hp).length) (tot + ((st.ev y).rowsOf st.hp).length)))
      | _ => False
    | .a (.slice none 0 0) => st.hp[st.bs + r]? = some .res ∧ okSl st.hp (st.ev y) ∧ (st.ev y).slEs es ∧ (st.ev y).slLen * bytes ≤ 140737488355328 ∧
          k ({ st with hp := st.hp.set (st.bs + r) (.mem false ((st.ev y).rowIds st.hp) ((st.ev y).rowsOf st.hp)) }.put d (.own (st.bs + r) es 0 ((st.ev y).rowsOf st.hp).length ((st.ev y).rowsOf st.hp).length))
    | .nul es' => es' = es ∧ st.hp[st.bs + r]? = some .res ∧ okSl st.hp (st.ev y) ∧ (st.ev y).slEs es ∧ (st.ev y).slLen * bytes ≤ 140737488355328 ∧
          (if ((st.ev y).rowsOf st.hp).isEmpty = true then k (st.put d (.nul es)) else
            k ({ st with hp := st.hp.set (st.bs + r) (.mem false ((st.ev y).rowIds st.hp) ((st.ev y).rowsOf st.hp)) }.put d (.own (st.bs + r) es 0 ((st.ev y).rowsOf st.hp).length ((st.ev y).rowsOf st.hp).length)))
    | _ => False) := rfl
@[simp] theorem vc_cpy : I.vc P (.cpy d es x y) k st = (match st.ev x with
    | .own id es' off len tot => match st.hp.getD id .dead with
      | .mem false refs rows => es' = es ∧ rows.length = tot ∧ off + len ≤ tot ∧ okSl st.hp (st.ev y) ∧ (st.ev y).slEs es ∧ (st.ev y).slLen ≤ len ∧
          k ({ st with hp := st.hp.set id (.mem false (addRefs refs ((st.ev y).rowIds st.hp)) (rows.take off ++ (st.ev y).rowsOf st.hp ++ rows.drop (off + ((st.ev y).rowsOf st.hp).length))) }.put d (.a (.int .i64 (st.ev y).slLen)))
      | _ => False
    | _ => False) := rfl
@[simp] theorem vc_mup : I.vc P (.mup ap kd m key v) k st = (match st.ev m with
    | .mp id => match st.hp.getD id .dead with
      | .map false refs es => (∀ t ∈ ap, (gt st.sl t).oid ≠ some id) ∧ (∀ e ∈ es, e.1.isKey kd = true) ∧ (st.ev key).isKey kd = true ∧
          k { st with hp := st.hp.set id (.map false (addRefs refs (V.idsL [st.ev v])) (putE es (st.ev key) (st.ev v))) }
      | _ => False
    | _ => False) := rfl

/-! Calls. -/
variable {f : FuncId} {xs : List Operand}
theorem call_go {r0 : V} {zs : List V} (hc : Pf P f zs r0) (ha : xs.map st.ev = zs) (hi : V.idsL zs = []) (hk : k (st.put d r0)) : I.vc P (.call d f xs) k st := by
  subst ha; exact ⟨hi, hc.use hk⟩
theorem callo_gen {zs : List V} {Q : V → Heap → Prop} (hc : DC P f zs [] Q) (ha : xs.map st.ev = zs) (hi : V.idsL zs = []) (hf : okFunc P f = true)
    (hk : ∀ r H', Q r H' → k ({ st with hp := st.hp ++ H'.map (O.ren (st.hp.length + ·)) }.put d (r.ren (st.hp.length + ·)))) : I.vc P (.callo d (.func f) xs) k st := by
  rw [callo_fn]; subst ha; exact ⟨hf, hi, hc.mono hk⟩
theorem callo_go {zs : List V} {r0 : V} {H0 : Heap} (hc : DC P f zs [] fun r H => r = r0 ∧ H = H0) (ha : xs.map st.ev = zs) (hi : V.idsL zs = []) (hf : okFunc P f = true)
    (hk : k ({ st with hp := st.hp ++ H0.map (O.ren (st.hp.length + ·)) }.put d (r0.ren (st.hp.length + ·)))) : I.vc P (.callo d (.func f) xs) k st :=
  callo_gen hc ha hi hf fun r H ⟨a, b⟩ => by subst a b; exact hk
theorem callm_gen {zs : List V} {H0 : Heap} {Q : V → Heap → Prop} (hc : DC P f zs H0 Q) (sel : List Nat) (hs : clos st.hp 8 (addAll [] (V.idsL (xs.map st.ev))) = sel) (hok : OkSel st.hp sel) (ha : V.renL (idx sel) (xs.map st.ev) = zs) (hH : sub st.hp sel = H0)
    (hf : okFunc P f = true) (hk : ∀ r H', Q r H' → k ({ st with hp := merge st.hp sel H' }.put d (r.ren (back sel st.hp.length)))) : I.vc P (.callm d (.func f) xs) k st := by
  rw [callm_fn]; subst hs ha hH; exact ⟨hf, hok, hc.mono hk⟩
theorem callm_go {zs : List V} {H0 : Heap} {r0 : V} {H1 : Heap} (hc : DC P f zs H0 fun r H => r = r0 ∧ H = H1) (sel : List Nat) (hs : clos st.hp 8 (addAll [] (V.idsL (xs.map st.ev))) = sel) (hok : OkSel st.hp sel) (ha : V.renL (idx sel) (xs.map st.ev) = zs) (hH : sub st.hp sel = H0)
    (hf : okFunc P f = true) (hk : k ({ st with hp := merge st.hp sel H1 }.put d (r0.ren (back sel st.hp.length)))) : I.vc P (.callm d (.func f) xs) k st :=
  callm_gen hc sel hs hok ha hH hf fun r H ⟨a, b⟩ => by subst a b; exact hk
theorem calla_gen {zs : List V} {H0 : Heap} {Q : V → Heap → Prop} (hc : DC P f zs H0 Q) (sel : List Nat) (hs : clos st.hp 8 (addAll [] (V.idsL (xs.map st.ev))) = sel) (hok : OkSel st.hp sel) (hap : ∀ t ∈ ap, ∀ k, (gt st.sl t).oid = some k → k ∉ sel)
    (ha : V.renL (idx sel) (xs.map st.ev) = zs) (hH : sub st.hp sel = H0) (hf : okFunc P f = true) (hk : ∀ r H', Q r H' → k ({ st with hp := merge st.hp sel H' }.put d (r.ren (back sel st.hp.length)))) : I.vc P (.calla ap d (.func f) xs) k st := by
  rw [calla_fn]; subst hs ha hH; exact ⟨hf, hok, hap, hc.mono hk⟩
theorem calla_go {zs : List V} {H0 : Heap} {r0 : V} {H1 : Heap} (hc : DC P f zs H0 fun r H => r = r0 ∧ H = H1) (sel : List Nat) (hs : clos st.hp 8 (addAll [] (V.idsL (xs.map st.ev))) = sel) (hok : OkSel st.hp sel) (hap : ∀ t ∈ ap, ∀ k, (gt st.sl t).oid = some k → k ∉ sel)
    (ha : V.renL (idx sel) (xs.map st.ev) = zs) (hH : sub st.hp sel = H0) (hf : okFunc P f = true) (hk : k ({ st with hp := merge st.hp sel H1 }.put d (r0.ren (back sel st.hp.length)))) : I.vc P (.calla ap d (.func f) xs) k st :=
  calla_gen hc sel hs hok hap ha hH hf fun r H ⟨a, b⟩ => by subst a b; exact hk
end

/-- An object that names no other. -/
structure O.clo (o : O) : Prop where
  refs : o.refs = []
  ren : ∀ f, o.ren f = o
  nres : o ≠ .res
theorem clos_one {H : Heap} {k : Nat} {o : O} (h : H[k]? = some o) (c : o.clo) : clos H 8 [k] = [k] :=
  clos_stop H 8 [k] fun i hi q hq => by
    simp only [List.mem_singleton] at hi; subst hi
    rw [getD_some h, c.refs] at hq; cases hq
theorem okSel_one {H : Heap} {k : Nat} {o : O} (h : H[k]? = some o) (c : o.clo) : OkSel H [k] := by
  refine ⟨by simp, fun i hi => ?_, fun i hi => ?_, fun i hi q hq => ?_⟩ <;> (simp only [List.mem_singleton] at hi; subst hi)
  · exact lt_of_get h
  · rw [getD_some h]; exact c.nres
  · rw [getD_some h, c.refs] at hq; cases hq
theorem sub_one {H : Heap} {k : Nat} {o : O} (h : H[k]? = some o) (c : o.clo) : sub H [k] = [o] := by
  simp only [sub, List.map_cons, List.map_nil, getD_some h, c.ren]
theorem merge_one {H H1 : Heap} {k : Nat} {o o' : O} (h : H[k]? = some o) (c : o'.clo) (h1 : ∀ p ∈ H1, p.clo) : merge H [k] (o' :: H1) = H.set k o' ++ H1 := by
  have : H1.map (O.ren (back [k] H.length)) = H1 := (List.map_congr_left fun p hp => (h1 p hp).ren _).trans (List.map_id _)
  simp only [merge, place, List.length_cons, List.length_nil, Nat.zero_add, List.take_succ_cons, List.take_zero, List.map_cons, List.map_nil, c.ren, List.drop_succ_cons, List.drop_zero, this]
theorem set_same {H : Heap} {k : Nat} {o : O} (h : H[k]? = some o) : H.set k o = H := by
  obtain ⟨hl, he⟩ := List.getElem?_eq_some_iff.1 h
  rw [← he]; exact List.set_getElem_self hl
section
variable {P : Program} {k : St → Prop} {st : St} {d : Option Nat} {ap : List Nat} {f : FuncId} {xs : List Operand}
/-- A call that is handed one object by itself. -/
theorem callm_one {zs : List V} {r0 : V} {o o' : O} {H1 : Heap} (hc : DC P f zs [o] fun r H => r = r0 ∧ H = o' :: H1) (p : Nat) (hi : addAll [] (V.idsL (xs.map st.ev)) = [p]) (hp : st.hp[p]? = some o) (c : o.clo) (c' : o'.clo) (c1 : ∀ q ∈ H1, q.clo)
    (ha : V.renL (idx [p]) (xs.map st.ev) = zs) (hf : okFunc P f = true) (hk : k ({ st with hp := st.hp.set p o' ++ H1 }.put d (r0.ren (back [p] st.hp.length)))) : I.vc P (.callm d (.func f) xs) k st :=
  callm_go hc [p] (by rw [hi, clos_one hp c]) (okSel_one hp c) ha (sub_one hp c) hf (by rw [merge_one hp c' c1]; exact hk)
theorem calla_one {zs : List V} {r0 : V} {o o' : O} {H1 : Heap} (hc : DC P f zs [o] fun r H => r = r0 ∧ H = o' :: H1) (p : Nat) (hi : addAll [] (V.idsL (xs.map st.ev)) = [p]) (hp : st.hp[p]? = some o) (c : o.clo) (c' : o'.clo) (c1 : ∀ q ∈ H1, q.clo)
    (hap : ∀ t ∈ ap, (gt st.sl t).oid ≠ some p) (ha : V.renL (idx [p]) (xs.map st.ev) = zs) (hf : okFunc P f = true) (hk : k ({ st with hp := st.hp.set p o' ++ H1 }.put d (r0.ren (back [p] st.hp.length)))) : I.vc P (.calla ap d (.func f) xs) k st :=
  calla_go hc [p] (by rw [hi, clos_one hp c]) (okSel_one hp c) (fun t ht q hq => by simp only [List.mem_singleton]; rintro rfl; exact hap t ht hq) ha (sub_one hp c) hf (by rw [merge_one hp c' c1]; exact hk)
end
end Go.Abs

/- Contracts: of what a call leaves, the objects that its caller wants, numbered anew. -/
namespace Go.Abs
set_option linter.unusedVariables false

theorem HOK.less {hp : Array Obj} {H : Heap} {β : Nat → Hd} {F F' : Nat → Prop} (hk : HOK hp H β F) (h : ∀ b, F' b → F b) : HOK hp H β F' ∧ (cx hp H β F).le (cx hp H β F') := by
  have hle : (cx hp H β F).le (cx hp H β F') := ⟨Nat.le_refl _, fun b hb hn => ⟨rfl, fun e => hn (e.imp id (h b))⟩, fun _ h => h, fun _ _ _ e => .inl e⟩
  exact ⟨⟨fun i o ho => (hk.ro i o ho).mono hle rfl (fun hn e => hn (e.imp (fun x => x) (h _))) fun _ _ _ _ _ _ => rfl, hk.one, fun b hb => hk.far b (h b hb)⟩, hle⟩

theorem DC.pick {P : Program} {f : FuncId} {xs : List V} {H : Heap} {Q Q' : V → Heap → Prop} (h : DC P f xs H Q)
    (hq : ∀ x H', Q x H' → ∃ sel, OkSel H' sel ∧ (∀ i, i < H.length → sel[i]? = some i) ∧ (∀ i ∈ x.ids, i ∈ sel) ∧ Q' (x.ren (idx sel)) (Abs.sub H' sel)) : DC P f xs H Q' := fun w β F vs hk hr =>
  (h w β F vs hk hr).mono fun e w' ⟨r, x, H', β2, h1, h2, h3, h4⟩ => by
    obtain ⟨sel, ok, hn, hx, hQ⟩ := hq x H' h4
    obtain ⟨k1, k2⟩ := (sub_ok h2.hok ok).less (F' := F) fun b hb => .inl hb
    have hsub : ∀ id, id < H.length → (Abs.sub H' sel)[id]? = (H'[id]?).map (O.ren (idx sel)) ∧ βsub β2 sel id = β2 id := fun id hid => by
      obtain ⟨h5, h6⟩ := List.getElem?_eq_some_iff.1 (hn id hid)
      have h7 : sel.getD id 0 = id := by simp [List.getD, hn id hid]
      exact ⟨by rw [sub_get ok h5, h7], by unfold βsub; rw [h7]⟩
    refine ⟨r, _, _, βsub β2 sel, h1, ⟨k1, ⟨h2.le.size, fun b hb hno => ⟨(h2.le.same b hb hno).1, fun e => (h2.le.same b hb hno).2 ?_⟩, fun id hl => ?_, fun id g' hl e => ?_⟩, h2.ext⟩, ?_, hQ⟩
    · rcases e with ⟨j, e⟩ | e
      · exact .inl ⟨_, (owns_sub ok e).2⟩
      · exact .inr e
    · have hlt : id < H.length := by obtain ⟨o, e, _⟩ := hl; exact lt_of_get e
      exact (liveIn_ren (hsub id hlt).1).2 (h2.le.live id hl)
    · have hlt : id < H.length := by obtain ⟨o, e, _⟩ := hl; exact lt_of_get e
      refine h2.le.hd id g' hl ?_
      have e' : hdOf (Abs.sub H' sel) (βsub β2 sel) id = some g' := e
      rw [hdOf_ren (hsub id hlt).1 (hsub id hlt).2] at e'
      exact e'
    · have h5 := (h3.onlyOf x.ids fun i hi => hi).ren (ren_sub (w := w') (F := F) ok hx)
      exact h5.up.mono k2

/-- The same, for results that are just this, over just this. -/
theorem DC.picks {P : Program} {f : FuncId} {xs : List V} {H : Heap} {Q : V → Heap → Prop} {r : V} {K : Heap} (h : DC P f xs H Q)
    (hq : ∀ x H', Q x H' → ∃ sel, OkSel H' sel ∧ (∀ i, i < H.length → sel[i]? = some i) ∧ (∀ i ∈ x.ids, i ∈ sel) ∧ x.ren (idx sel) = r ∧ Abs.sub H' sel = K) : DC P f xs H fun x H' => x = r ∧ H' = K :=
  h.pick fun x H' hQ => by obtain ⟨sel, a, b, c, d, e⟩ := hq x H' hQ; exact ⟨sel, a, b, c, d, e⟩

/-- A slice without elements, as one of its own. -/
theorem DC.ownnil {P : Program} {f : FuncId} {xs : List V} {H : Heap} {Q Q' : V → Heap → Prop} (h : DC P f xs H Q)
    (hq : ∀ x H', Q x H' → Q' x H' ∨ ∃ es, (x = .a (.slice none 0 0) ∨ ∃ es', x = .nul es') ∧ Q' (.own H'.length es 0 0 0) (H' ++ [.mem false [] []])) : DC P f xs H Q' := fun w β F vs hk hr =>
  (h w β F vs hk hr).mono fun e w' ⟨r, x, H', β2, h1, h2, h3, h4⟩ => by
    rcases hq x H' h4 with hQ | ⟨es, hx, hQ⟩
    · exact ⟨r, x, H', β2, h1, h2, h3, hQ⟩
    · obtain ⟨ad, rfl⟩ : ∃ ad, r = .slice ad 0 0 := by
        rcases hx with rfl | ⟨es', rfl⟩
        · exact ⟨none, h3.of_a⟩
        · cases h3 with
          | nul => exact ⟨_, rfl⟩
      have a1 := adv_res (F := F) h2.hok 1
      have hg : (H' ++ List.replicate 1 O.res)[H'.length]? = some O.res := by simp
      have a2 := new_nil (es := es) (refs := []) (F := F) a1.hok hg
      have e : (H' ++ List.replicate 1 O.res).set H'.length (.mem false [] []) = H' ++ [.mem false [] []] := by
        rw [List.set_append, if_neg (by omega), Nat.sub_self]; rfl
      have a3 := nil_own (es := es) (refs := []) (ad := ad) (hp := w'.heap) (F := F) (β := β2) hg
      rw [e] at a2 a3
      exact ⟨_, _, _, _, h1, h2.trans (a1.trans a2), a3, hQ⟩

/-- An argument that is a slice of one's own without elements, by what it may be. -/
theorem DC.own0 {P : Program} {f : FuncId} {es : Nat} {ys : List V} {H : Heap} {Q : V → Heap → Prop} {id : Nat} {refs : List Nat} (hid : H[id]? = some (.mem false refs []))
    (h : ∀ ad c, (ad = none → c = 0) → DC P f (.a (.slice ad 0 c) :: ys) H Q) : DC P f (.own id es 0 0 0 :: ys) H Q := by
  intro w β F vs hk hr
  have hlt : 0 < vs.size := by have := hr.1; simp at this; omega
  have hv := hr.2 0 vs[0] (.own id es 0 0 0) (by simp [hlt]) rfl
  have hd : hdOf H β id = some ((β id).wt 0) := by unfold hdOf; rw [hid]; rfl
  have key : ∃ ad c, (ad = none → c = 0) ∧ vs[0] = .slice ad 0 c := by
    generalize vs[0] = v at hv
    cases hv with
    | own hl hh =>
      obtain ⟨_, g⟩ := hh _ hd
      obtain ⟨_, _, g⟩ := g rfl
      rcases g with ⟨_, ⟨ad, rfl⟩, _⟩ | ⟨_, ad, rfl, _⟩
      · exact ⟨ad, 0, fun _ => rfl, rfl⟩
      · exact ⟨some ad, _, (fun e => by cases e), rfl⟩
  obtain ⟨ad, c, h1, h2⟩ := key
  refine h ad c h1 w β F vs hk ⟨by simpa using hr.1, fun i v x hv' hx => ?_⟩
  cases i with
  | zero =>
    rw [Array.getElem?_eq_getElem hlt] at hv'
    injection hv' with hv'
    injection hx with hx
    subst hx
    rw [← hv', h2]; exact .a
  | succ i => exact hr.2 (i + 1) v x hv' (by simpa using hx)
end Go.Abs

/- Many objects at once. -/
namespace Go.Abs
set_option linter.unusedVariables false
section
variable {w : World} {β : Nat → Hd} {F : Nat → Prop} {H : Heap}
theorem adv_toTreeE {id : Nat} {refs : List Nat} {rows : List (List V)} (hk : HOK w.heap H β F) (hid : H[id]? = some (.mem false refs rows)) (hlo : (β id).lo = 0) : Adv F w H β w (H.set id (.tree refs (flatC rows))) (upd β id ((β id).ws noSub)) := by
  refine turn_at (S := noSub) hk hid (by simp) (fun b hb => ?_) (fun g' hg => ?_) fun hle => ?_
  · unfold ownsB at hb ⊢
    rw [get_set hid, upd_same] at hb
    rw [hid]
    obtain ⟨h1, h2 | h2⟩ := hb
    · exact ⟨h1, h2⟩
    · exact h2.elim
  · unfold hdOf at hg ⊢
    rw [get_set hid, upd_same] at hg
    rw [hid]
    simp only [flatC_length] at hg ⊢
    exact hg
  · rcases hk.ro id _ hid with hr | ⟨q1, q2, q3, q4, q5, cs, E, fr, q6, q7, q8, q9⟩
    · exact .inl ⟨hr.1, by rw [hr.2.1]; rfl, hr.2.2⟩
    · obtain rfl := q7 rfl
      refine .inr ⟨q1, hlo, fun h => h, ?_, fun cs' E' fr' e => ?_⟩
      rotate_left
      · have e2 : w.heap[(β id).b]? = some (.cells cs' E' fr') := e
        have q6' : w.heap[(β id).b]? = some (.cells cs E (0, 0)) := q6
        rw [q6'] at e2
        cases e2
        exact q8
      have key : ∀ (i : Nat) (row : List Ce), (flatC rows)[i]? = some row → ∀ (j : Nat) (x : Ce), row[j]? = some x → ∃ y v, x = .v y ∧ cs[(β id).o + i * (β id).es + j]? = some v ∧ v.oneCell' = true ∧ RV ((cx w.heap H β F).only refs) v y := by
        intro i row hi j x hj
        obtain ⟨r, hr, rfl⟩ := flatC_get hi
        rw [List.getElem?_map, Option.map_eq_some_iff] at hj
        obtain ⟨y, hj, rfl⟩ := hj
        obtain ⟨v, e1, e2, e3⟩ := q9 i r hr (by omega) j y hj
        rw [hlo, Nat.sub_zero] at e1
        exact ⟨y, v, rfl, e1, e2, e3⟩
      have := TR.n (c := cx w.heap (H.set id (.tree refs (flatC rows))) (upd β id ((β id).ws noSub)) F) (refs := refs) (S := fun b => (β id).b = b ∨ noSub b) (ad := ⟨(β id).b, (β id).o, none⟩) (b := (β id).b) (o := (β id).o) (cap := (β id).cap) (es := (β id).es) (rows := flatC rows)
        (fun _ => rfl) cs E (fun i j => (cs[(β id).o + i * (β id).es + j]?).getD undef) (fun _ _ => noSub) q6 (by rw [flatC_length]; omega) q8 (fun i row hi => by
          obtain ⟨r, hr, rfl⟩ := flatC_get hi
          rw [List.length_map]; exact q4 i r hr) (fun i row hi j x hj => by
          obtain ⟨y, v, _, e1, _⟩ := key i row hi j x hj
          rw [e1]; rfl) (fun i row hi j x hj => by
          obtain ⟨y, v, rfl, e1, e2, e3⟩ := key i row hi j x hj
          rw [e1]; exact .v e2 (e3.mono (hle.only _))) (fun i j k h => h.elim) (fun k => ⟨fun h => h.elim (fun e => .inl e.symm) fun e => e.elim, fun h => h.elim (fun e => .inl e.symm) fun ⟨_, _, e⟩ => e.elim⟩) (fun i j h => h) fun i j i' j' k h => h.elim
      exact this

end
theorem upd_ne' {β : Nat → Hd} {i j : Nat} {h : Hd} (hne : j ≠ i) : upd β i h j = β j := by unfold upd; rw [if_neg hne]

/-- Rows of slices that own nothing further, each told as an object of trees. -/
theorem adv_treeAll {w : World} {F : Nat → Prop} : ∀ (todo : List (Nat × List (List V))) (H : Heap) (β : Nat → Hd), HOK w.heap H β F → (∀ c ∈ todo, H[c.1]? = some (.mem false [] c.2) ∧ (β c.1).lo = 0) → (todo.map (·.1)).Nodup →
    ∃ β' H', Adv F w H β w H' β' ∧ (∀ c ∈ todo, H'[c.1]? = some (.tree [] (flatC c.2))) ∧ H'.length = H.length ∧ ∀ j, j ∉ todo.map (·.1) → H'[j]? = H[j]?
  | [], H, β, hk, _, _ => ⟨β, H, ⟨hk, .refl _, .refl _ _⟩, by simp, rfl, fun _ _ => rfl⟩
  | c :: l, H, β, hk, hc, hnd => by
    obtain ⟨h1, h2⟩ := hc c (by simp)
    have a1 := adv_toTreeE hk h1 h2
    obtain ⟨n1, n2⟩ : c.1 ∉ l.map (·.1) ∧ (l.map (·.1)).Nodup := by simpa using List.nodup_cons.1 hnd
    obtain ⟨β', H', a2, k1, k2, k3⟩ := adv_treeAll l _ _ a1.hok (fun d hd => by
      have hne : d.1 ≠ c.1 := fun e => n1 (e ▸ List.mem_map_of_mem hd)
      obtain ⟨g1, g2⟩ := hc d (by simp [hd])
      exact ⟨by rw [getElem?_set_ne' hne]; exact g1, by rw [upd_ne' hne]; exact g2⟩) n2
    refine ⟨β', H', a1.trans a2, fun d hd => ?_, by rw [k2, List.length_set], fun j hj => ?_⟩
    · rcases List.mem_cons.1 hd with rfl | hd
      · rw [k3 _ n1]; exact get_set h1
      · exact k1 d hd
    · rw [List.map_cons, List.mem_cons, not_or] at hj
      rw [k3 j hj.2, getElem?_set_ne' hj.1]
end Go.Abs

/- A struct whose second cell is a nil slice, as one that owns a slice there. -/
namespace Go.Abs
set_option linter.unusedVariables false

section
variable {w : World} {β : Nat → Hd} {F : Nat → Prop} {H : Heap}
theorem adv_nil1 {id e : Nat} {refs : List Nat} {x : V} (hk : HOK w.heap H β F) (hid : H[id]? = some (.mem false refs [[x, nilS]])) (hx : ∀ k ∈ x.ids, k ∈ refs) (hlo : (β id).lo = 0) :
    ∃ β', Adv F w H β w (H.set id (.mem false (refs ++ [H.length]) [[x, .own H.length e 0 0 0]]) ++ [.mem false [] []]) β' := by
  have hlt := lt_of_get hid
  obtain ⟨β1, a1⟩ := adv_toTree hk hid hlo
  have g1 := get_set (y := O.tree refs (flatC [[x, nilS]])) hid
  obtain ⟨β3, a3⟩ := adv_nilcell (i := 0) (j := 1) (es := e) a1.hok g1 rfl rfl
  rw [List.set_set] at a3
  have g3 := get_set (y := O.tree refs [[.v x, .n e []]]) hid
  obtain ⟨β5, a5⟩ := adv_unpack (i := 0) (j := 1) a3.hok g3 rfl rfl
  rw [List.set_set, List.length_set] at a5
  replace a5 : Adv F w (H.set id (.tree refs [[.v x, .n e []]])) β3 w (H.set id (.tree (H.length :: refs) [[.v x, .v (.own H.length e 0 0 0)]]) ++ [O.tree refs []]) β5 := a5
  generalize hP : O.tree (H.length :: refs) [[.v x, .v (.own H.length e 0 0 0)]] = P at a5
  have g5 : (H.set id P ++ [O.tree refs []])[H.length]? = some (.tree refs []) := by
    rw [List.getElem?_append_right (by simp)]; simp
  obtain ⟨β6, a6⟩ := adv_refsT (refs' := []) a5.hok g5 (by simp [Ce.idsR])
  have e6 : ∀ a b : O, (H.set id P ++ [a]).set H.length b = H.set id P ++ [b] := fun a b => by
    rw [List.set_append, if_neg (by simp)]; simp
  rw [e6] at a6
  have g6 : (H.set id P ++ [O.tree [] []])[H.length]? = some (.tree [] (flatC [])) := by
    rw [List.getElem?_append_right (by simp)]; simp [flatC]
  obtain ⟨β7, a7⟩ := adv_toMem a6.hok g6
  rw [e6] at a7
  subst hP
  have g7 : (H.set id (.tree (H.length :: refs) [[.v x, .v (.own H.length e 0 0 0)]]) ++ [O.mem false [] []])[id]? = some (.tree (H.length :: refs) [[.v x, .v (.own H.length e 0 0 0)]]) := by
    rw [List.getElem?_append_left (by simpa using hlt)]; exact get_set hid
  obtain ⟨β8, a8⟩ := adv_refsT (refs' := refs ++ [H.length]) a7.hok g7 (by
    intro k hk
    simp only [Ce.idsR, Ce.idsL, Ce.ids, V.ids, List.append_nil, List.mem_append, List.mem_singleton] at hk
    rcases hk with h | h
    · exact List.mem_append_left _ (hx k h)
    · rw [h]; simp)
  have e8 : ∀ P P' : O, (H.set id P ++ [O.mem false [] []]).set id P' = H.set id P' ++ [O.mem false [] []] := fun P P' => by
    rw [List.set_append, if_pos (by simpa using hlt), List.set_set]
  rw [e8] at a8
  have g8 : (H.set id (.tree (refs ++ [H.length]) [[.v x, .v (.own H.length e 0 0 0)]]) ++ [O.mem false [] []])[id]? = some (.tree (refs ++ [H.length]) (flatC [[x, .own H.length e 0 0 0]])) := by
    rw [List.getElem?_append_left (by simpa using hlt)]; exact get_set hid
  obtain ⟨β9, a9⟩ := adv_toMem a8.hok g8
  rw [e8] at a9
  exact ⟨β9, a1.trans (a3.trans (a5.trans (a6.trans (a7.trans (a8.trans a9)))))⟩

theorem adv_nil2m {id e1 e2 : Nat} (hk : HOK w.heap H β F) (hid : H[id]? = some (.mem false [] [[nilS, nilS]])) (hlo : (β id).lo = 0) :
    ∃ β', Adv F w H β w (H.set id (.mem false [H.length, H.length + 1] [[.own H.length e1 0 0 0, .own (H.length + 1) e2 0 0 0]]) ++ [.mem false [] [], .mem false [] []]) β' := by
  obtain ⟨β1, a1⟩ := adv_nil2 (e1 := e1) (e2 := e2) hk hid hlo
  generalize hP : O.mem false [H.length, H.length + 1] [[.own H.length e1 0 0 0, .own (H.length + 1) e2 0 0 0]] = P at a1 ⊢
  have g : (H.set id P ++ [O.mem false [] [], .tree [] []])[H.length + 1]? = some (.tree [] (flatC [])) := by
    rw [List.getElem?_append_right (by simp)]; simp [flatC]
  obtain ⟨β2, a2⟩ := adv_toMem a1.hok g
  have e : (H.set id P ++ [O.mem false [] [], .tree [] []]).set (H.length + 1) (.mem false [] []) = H.set id P ++ [O.mem false [] [], .mem false [] []] := by
    rw [List.set_append, if_neg (by simp)]; simp
  rw [e] at a2
  exact ⟨β2, a1.trans a2⟩
end

theorem Weak.nil2m {st : St} {id e1 e2 t : Nat} (hid : st.hp[id]? = some (.mem false [] [[nilS, nilS]])) (ht : gt st.sl t = .ptr id 1 0 0) :
    Weak st { st with hp := st.hp.set id (.mem false [st.hp.length, st.hp.length + 1] [[.own st.hp.length e1 0 0 0, .own (st.hp.length + 1) e2 0 0 0]]) ++ [.mem false [] [], .mem false [] []] } := by
  refine ⟨rfl, fun k hk => ?_, by simp, fun w β F N a hR => ?_⟩
  · show (st.hp.set id _ ++ _)[k]? = _
    have hne : k ≠ id := by rintro rfl; rw [hid] at hk; simp at hk
    rw [List.getElem?_append_left (by rw [List.length_set]; exact lt_of_get hk), getElem?_set_ne' hne]; exact hk
  · have hs := hR.sl t
    rw [ht] at hs
    have hd : (cx w.heap st.hp β F).hd id = some ((β id).wt 1) := by show hdOf st.hp β id = _; unfold hdOf; rw [hid]; rfl
    have hlo : ((β id).wt 1).lo = 0 := lo_of_ptr (h := (β id).wt 1) hs hd rfl
    obtain ⟨β', adv⟩ := adv_nil2m (e1 := e1) (e2 := e2) hR.hok hid hlo
    exact ⟨β', adv, hR.adv adv⟩

theorem Weak.nil1 {st : St} {id e t : Nat} {refs : List Nat} {x : V} (hid : st.hp[id]? = some (.mem false refs [[x, nilS]])) (hx : ∀ k ∈ x.ids, k ∈ refs) (ht : gt st.sl t = .ptr id 1 0 0) :
    Weak st { st with hp := st.hp.set id (.mem false (refs ++ [st.hp.length]) [[x, .own st.hp.length e 0 0 0]]) ++ [.mem false [] []] } := by
  refine ⟨rfl, fun k hk => ?_, by simp, fun w β F N a hR => ?_⟩
  · show (st.hp.set id _ ++ _)[k]? = _
    have hne : k ≠ id := by rintro rfl; rw [hid] at hk; simp at hk
    rw [List.getElem?_append_left (by rw [List.length_set]; exact lt_of_get hk), getElem?_set_ne' hne]; exact hk
  · have hs := hR.sl t
    rw [ht] at hs
    have hd : (cx w.heap st.hp β F).hd id = some ((β id).wt 1) := by show hdOf st.hp β id = _; unfold hdOf; rw [hid]; rfl
    have hlo : ((β id).wt 1).lo = 0 := lo_of_ptr (h := (β id).wt 1) hs hd rfl
    obtain ⟨β', adv⟩ := adv_nil1 (e := e) hR.hok hid hx hlo
    exact ⟨β', adv, hR.adv adv⟩
end Go.Abs

namespace Go.Abs.G
open Go.Proofs
set_option linter.unusedVariables false
set_option linter.unusedSimpArgs false
attribute [local simp] I.vc

/-- A copy of a slice of domains. -/
theorem cloneD_spec (L : List Dom) (hl : L.length ≤ 64) : DC Tryz.prog slices_Clone_Ldom_domain_dom_domain.id [.own 0 4 0 L.length L.length] [.mem false [] (L.map Dom.row)]
    (fun r H => r = .own 1 4 0 L.length L.length ∧ H = [.mem false [] (L.map Dom.row), .mem false [] (L.map Dom.row)]) := by
  by_cases hL : L = []
  · subst hL
    refine DC.own0 (refs := []) rfl fun ad c hc => ?_
    refine DC.ownnil (Q := fun r H => (r = .a (.slice none 0 0) ∨ r = .nul 4) ∧ H = [.mem false [] []]) ?_ ?_
    · refine DC.pick (Q := fun r H => (r = .a (.slice none 0 0) ∨ r = .nul 4) ∧ ∃ E, H = .mem false [] [] :: E) ?_ ?_
      · refine DC.of slices_Clone_Ldom_domain_dom_domain.ok (by simp) ?_
        cases ad with
        | none =>
          obtain rfl := hc rfl
          simp [slices_Clone_Ldom_domain_dom_domain.ir, slices_Clone_Ldom_domain_dom_domain.rs]
        | some ad => simp [slices_Clone_Ldom_domain_dom_domain.ir, slices_Clone_Ldom_domain_dom_domain.rs]
      · rintro r H ⟨hr, E, rfl⟩
        refine ⟨[0], by simp [O.refs], by simp, by rcases hr with rfl | rfl <;> simp, by rcases hr with rfl | rfl <;> simp, by simp [sub]⟩
    · rintro r H ⟨hr, rfl⟩
      refine .inr ⟨4, hr.imp id fun h => ⟨4, h⟩, rfl, rfl⟩
  · have hp : 0 < L.length := List.length_pos_iff.2 hL
    refine DC.picks (Q := fun r H => r = .own 2 4 0 L.length L.length ∧ ∃ B E, H = .mem false [] (L.map Dom.row) :: B :: .mem false [] (L.map Dom.row) :: E) ?_ ?_
    · refine DC.of slices_Clone_Ldom_domain_dom_domain.ok (by simp) ?_
      simp [slices_Clone_Ldom_domain_dom_domain.ir, slices_Clone_Ldom_domain_dom_domain.rs, hL]
      exact ⟨by omega, List.take_of_length_le (by simp)⟩
    · rintro r H ⟨rfl, B, E, rfl⟩
      exact ⟨[0, 2], by simp [O.refs], by simp, by simp, rfl, by simp [sub]⟩

theorem lo_own {w : World} {β : Nat → Hd} {F : Nat → Prop} {H : Heap} {vs : Array Value} {xs : List V} {i id n es : Nat} (hr : RVs (cx w.heap H β F) vs xs) (hi : xs[i]? = some (.own id es 0 n n)) (hd : hdOf H β id = some ((β id).wt n)) : (β id).lo = 0 := by
  have hlt := lt_of_get hi
  obtain ⟨v, hv⟩ : ∃ v, vs[i]? = some v := ⟨vs[i]'(by rw [hr.1]; exact hlt), Array.getElem?_eq_getElem _⟩
  have h := hr.2 i v _ hv hi
  cases h with
  | own hl hh => exact Nat.le_zero.1 ((hh _ hd).2 rfl).1

/-- The same, of a slice that lies within another. -/
theorem cloneT_spec (L : List Dom) (hl : L.length ≤ 64) : DC Tryz.prog slices_Clone_Ldom_domain_dom_domain.id [.own 0 4 0 L.length L.length] [.tree [] (L.map domCe)]
    (fun r H => r = .own 1 4 0 L.length L.length ∧ H = [.tree [] (L.map domCe), .mem false [] (L.map Dom.row)]) := by
  refine DC.pre (H1 := [.mem false [] (L.map Dom.row)]) (fun w β F vs hk hr => ?_) (DC.post' (cloneD_spec L hl) ?_)
  · exact adv_toMem (id := 0) (refs := []) (rows := L.map Dom.row) hk (by rw [← domCe_flat]; rfl)
  · rintro x H1 ⟨rfl, rfl⟩ w β F vs hk hr
    have l0 := lo_own (i := 1) hr rfl (by simp [hdOf])
    obtain ⟨β1, a1⟩ := adv_toTree (id := 0) hk rfl l0
    refine ⟨β1, _, a1, rfl, ?_⟩
    rw [domCe_flat]; rfl
end Go.Abs.G

namespace Go.Abs.G
open Go.Proofs
set_option linter.unusedVariables false
set_option linter.unusedSimpArgs false

section
variable {s : List Dom} {rf : List Nat} {R : List (List V)} {Es L : Heap} {n c : Nat}
theorem Zn (h : n = 3 + Es.length) (L : Heap) (c : Nat) : (Z s rf R ++ (Es ++ L))[n + c]? = L[c]? := by
  subst h
  rw [List.getElem?_append_right (by simp [Z]; omega), List.getElem?_append_right (by simp [Z]; omega)]
  congr 1; simp [Z]; omega
theorem Zn0 (h : n = 3 + Es.length) (L : Heap) : (Z s rf R ++ (Es ++ L))[n]? = L[0]? := Zn h L 0
theorem Zs (h : n = 3 + Es.length) (L : Heap) (c : Nat) (o : O) : (Z s rf R ++ (Es ++ L)).set (n + c) o = Z s rf R ++ (Es ++ L.set c o) := by
  subst h
  rw [List.set_append, if_neg (by simp [Z]; omega), List.set_append, if_neg (by simp [Z]; omega)]
  have : 3 + Es.length + c - (Z s rf R).length - Es.length = c := by simp [Z]; omega
  rw [this]
theorem Zs0 (h : n = 3 + Es.length) (L : Heap) (o : O) : (Z s rf R ++ (Es ++ L)).set n o = Z s rf R ++ (Es ++ L.set 0 o) := Zs h L 0 o
theorem Zg (h : n = 3 + Es.length) (L : Heap) (c : Nat) (h2) : (Z s rf R ++ (Es ++ L))[n + c]'h2 = L[c]'(by subst h; simp [Z] at h2; omega) := by
  have e := Zn (s := s) (rf := rf) (R := R) h L c
  rw [List.getElem?_eq_getElem h2] at e
  exact (Option.some.inj (e.trans (List.getElem?_eq_getElem _)))
theorem Zg0 (h : n = 3 + Es.length) (L : Heap) (h2) : (Z s rf R ++ (Es ++ L))[n]'h2 = L[0]'(by subst h; simp [Z] at h2; omega) := Zg h L 0 h2
theorem Zl (h : n = 3 + Es.length) (L : Heap) : (Z s rf R ++ (Es ++ L)).length = n + L.length := by subst h; simp [Z]; omega
end

theorem Z_sub1 {s : List Dom} {rf : List Nat} {R : List (List V)} {X : Heap} : sub (Z s rf R ++ X) [1] = [.mem false [] (s.map Dom.row)] := by
  simp [sub, Z, O.ren, Function.comp_def]
theorem Z_merge1 {s : List Dom} {rf : List Nat} {R : List (List V)} {X : Heap} : merge (Z s rf R ++ X) [1] [.mem false [] (s.map Dom.row), .mem false [] (s.map Dom.row)] = Z s rf R ++ (X ++ [.mem false [] (s.map Dom.row)]) := by
  simp [merge, place, Z, O.ren, Function.comp_def]
/-- A copy's slice of marks: where each lies. -/
def cR (b : Nat) (ms : List (List Dom)) (i : Nat) : List (List V) := ((ms.take i).zipIdx).map fun p => [.own (b + 3 * p.2) 4 0 p.1.length p.1.length]
/-- What stands behind i marks copied, behind the original. -/
inductive CI (s : List Dom) (ms : List (List Dom)) (n : Nat) : Nat → Heap → Prop where
  | zero {i : Nat} (hi : i = 0) : CI s ms n i [.mem false [n + 1] [[.own (n + 1) 4 0 s.length s.length, nilS]], .mem false [] (s.map Dom.row)]
  | some {i : Nat} {rf rf' : List Nat} {G : O} {T : Heap} (hi : 0 < i) (hl : T.length = 3 * i - 2) (hk : ∀ j L, j < i → ms[j]? = some L → T[3 * j]? = some (.mem false [] (L.map Dom.row)))
      (hr : ∀ r ∈ rf, r < n + 4 + 3 * i) (hr' : ∀ r ∈ rf', r < n + 4 + 3 * i) : CI s ms n i (.mem false rf [[.own (n + 1) 4 0 s.length s.length, .own (n + 3) 1 0 i i]] :: .mem false [] (s.map Dom.row) :: G :: .mem false rf' (cR (n + 4) ms i) :: T)

theorem CI.len {s : List Dom} {ms : List (List Dom)} {n i : Nat} {E : Heap} (h : CI s ms n i E) : E.length = 2 + 3 * i := by
  cases h with
  | zero hi => simp [hi]
  | some hi hl hk hr hr' => simp [hl]; omega
theorem limO_of {m : Nat} {o : O} (h : ∀ r ∈ o.refs, r < m) : limO m o = o := by
  unfold limO; rw [if_pos (List.all_eq_true.2 fun r hr => by simpa using h r hr)]
theorem CI.trim {s : List Dom} {ms : List (List Dom)} {n i m : Nat} {E : Heap} (h : CI s ms n i E) (hm : n + 4 + 3 * i ≤ m) : CI s ms n i (E.map (limO m)) := by
  cases h with
  | zero hi =>
    rw [List.map_cons, List.map_cons, List.map_nil, limO_of (by simp [O.refs]; omega), limO_of (by simp [O.refs])]
    exact .zero hi
  | some hi hl hk hr hr' =>
    rw [List.map_cons, List.map_cons, List.map_cons, List.map_cons, limO_of (fun r h => by have := hr r h; omega), limO_of (by simp [O.refs]), limO_of (o := .mem false _ (cR (n + 4) ms i)) (fun r h => by have := hr' r h; omega)]
    refine .some hi (by simpa using hl) (fun j L hj hL => ?_) hr hr'
    rw [List.getElem?_map, hk j L hj hL, Option.map_some, limO_of (by simp [O.refs])]
theorem rowsOf_get {ms : List (List Dom)} {i : Nat} {L : List Dom} (h : ms[i]? = some L) : (rowsOf' ms)[i]? = some [.own (3 + i) 4 0 L.length L.length] := by
  have := kids_get 4 3 (ms.map fun L => L.map domCe) i (L.map domCe) (by simp [h])
  simp [rowsOf', kidsOf, this]
theorem objsOf_get {ms : List (List Dom)} {i : Nat} {L : List Dom} (h : ms[i]? = some L) : (objsOf ms)[i]? = some (.tree [] (L.map domCe)) := by simp [objsOf, h]
theorem cR_succ (b : Nat) {ms : List (List Dom)} {i : Nat} {L : List Dom} (h : ms[i]? = some L) : cR b ms (i + 1) = cR b ms i ++ [[.own (b + 3 * i) 4 0 L.length L.length]] := by
  have hi := lt_of_get h
  have hL : ms[i] = L := by rw [List.getElem?_eq_getElem hi] at h; exact Option.some.inj h
  unfold cR
  rw [List.take_succ_eq_append_getElem hi, List.zipIdx_append, List.map_append, hL]
  have : (ms.take i).length = i := by rw [List.length_take]; omega
  simp [this]
theorem cR_len (b : Nat) {ms : List (List Dom)} {i : Nat} (h : i ≤ ms.length) : (cR b ms i).length = i := by
  simp [cR]; omega
theorem treeD_ren (L : List Dom) (f : Nat → Nat) : O.ren f (.tree [] (L.map domCe)) = .tree [] (L.map domCe) := by simp [O.ren, domCe_ren]
theorem treeD_clo (L : List Dom) : (O.tree [] (L.map domCe)).clo := ⟨rfl, treeD_ren L, fun e => by cases e⟩
theorem memD_clo (L : List Dom) : (O.mem false [] (L.map Dom.row)).clo := ⟨rfl, fun f => by simp [O.ren, Function.comp_def], fun e => by cases e⟩
set_option maxHeartbeats 2000000 in
theorem copy_open {s : List Dom} {ms : List (List Dom)} (hs : s.length ≤ 64) (hm : ms.length ≤ 1000000) (hL : ∀ L ∈ ms, L.length ≤ 64) :
    DC Tryz.prog dom_Store_Copy.id [.ptr 0 1 0 0] (Z s (List.range' 3 ms.length) (rowsOf' ms) ++ objsOf ms) (fun r H => r = .ptr (3 + ms.length) 1 0 0 ∧ ∃ E, CI s ms (3 + ms.length) ms.length E ∧ H = Z s (List.range' 3 ms.length) (rowsOf' ms) ++ (objsOf ms ++ E)) := by
  refine DC.of dom_Store_Copy.ok (by simp) ?_
  have hol : (objsOf ms).length = ms.length := by simp [objsOf]
  have hrl := rowsOf_len ms
  obtain ⟨n, hn⟩ : ∃ n, n = 3 + (objsOf ms).length := ⟨_, rfl⟩
  have hn' : 3 + ms.length = n := by omega
  rw [hn']
  obtain ⟨R, hR⟩ : ∃ R, R = rowsOf' ms := ⟨_, rfl⟩
  obtain ⟨rf, hrf⟩ : ∃ rf, rf = List.range' 3 ms.length := ⟨_, rfl⟩
  rw [← hR, ← hrf]
  rw [← hR] at hrl
  have z0 := fun L => Zn0 (s := s) (rf := rf) (R := R) hn L
  have z1 := fun L c => Zn (s := s) (rf := rf) (R := R) hn L c
  have z2 := fun L o => Zs0 (s := s) (rf := rf) (R := R) hn L o
  have z3 := fun L c o => Zs (s := s) (rf := rf) (R := R) hn L c o
  have z5 := fun L c h2 => Zg (s := s) (rf := rf) (R := R) hn L c h2
  have z6 := fun L h2 => Zg0 (s := s) (rf := rf) (R := R) hn L h2
  have z4 := fun L => Zl (s := s) (rf := rf) (R := R) hn L
  generalize hEs : objsOf ms = Es at *
  unfold dom_Store_Copy.ir
  refine vc_cut (At [(0, .ptr 0 1 0 0)] (Z s rf R ++ Es)) (by simp [At]) ?_
  rintro ⟨sl, hp, bs⟩ ⟨rfl, h⟩
  simp only [sls_cons, sls_one] at h
  have z40 : (Z s rf R ++ Es).length = n := by simpa using z4 []
  refine vc_cut (At [(0, .ptr 0 1 0 0), (3, .ptr n 1 0 0)] (Z s rf R ++ (Es ++ [.mem false [n + 1] [[.own (n + 1) 4 0 s.length s.length, nilS]], .mem false [] (s.map Dom.row)]))) ?_ ?_
  · simp [h, z40, V.idsL, V.ids, z0, z1, z2, z3, z4, z5, z6]
    refine callm_go (cloneD_spec s hs) [1] ?_ ?_ ?_ ?_ (by simp) ?_
    · simp [h, V.idsL, V.ids, UE1_clos]
    · simp [h, V.idsL, V.ids, UE1_clos, O.refs]
      omega
    · simp [h, V.idsL, V.ids, UE1_clos]
    · exact Z_sub1
    · rw [Z_merge1]
      simp [z40, z0, z1, z2, z3, z4, z5, z6, h, At]
  clear h
  rintro ⟨sl, hp, bs⟩ ⟨rfl, h⟩
  simp only [sls_cons, sls_one] at h
  obtain ⟨k, hk⟩ : ∃ k, k = ms.length := ⟨_, rfl⟩
  refine vc_cut (fun st => ∃ E, CI s ms n k E ∧ At [(3, .ptr n 1 0 0)] (Z s rf R ++ (Es ++ E)) st) ?_ ?_
  · refine vc_cut (At [(3, .ptr n 1 0 0), (16, .own 2 1 0 k k), (17, V.i k), (18, V.i 0)] (Z s rf R ++ (Es ++ [.mem false [n + 1] [[.own (n + 1) 4 0 s.length s.length, nilS]], .mem false [] (s.map Dom.row)]))) (by simp [h, At, hrl, hk]) ?_
    clear h
    rintro ⟨sl, hp, bs⟩ ⟨rfl, h⟩
    simp only [sls_cons, sls_one] at h
    refine vc_block_of (vc_upto (n + 3 * k + 10) (by simp [z4]; omega) k (fun i st => ∃ E, CI s ms n i E ∧ At [(3, .ptr n 1 0 0), (16, .own 2 1 0 k k), (17, V.i k), (18, V.i i)] (Z s rf R ++ (Es ++ E)) st) ⟨_, .zero rfl, rfl, by simpa using h⟩ ?_)
    clear h
    rintro i ⟨sl, hp, bs⟩ hi ⟨E, hE, rfl, h⟩
    simp only [sls_cons, sls_one] at h
    unfold dom_Store_Copy.b0
    by_cases hil : i < k
    · obtain ⟨L, hLi⟩ : ∃ L, ms[i]? = some L := ⟨_, List.getElem?_eq_getElem (by omega)⟩
      have hLl := hL L (List.mem_of_getElem? hLi)
      have hRi : R[i]? = some [.own (3 + i) 4 0 L.length L.length] := by rw [hR]; exact rowsOf_get hLi
      have hsrc : ∀ X : Heap, (Z s rf R ++ (Es ++ X))[3 + i]? = some (.tree [] (L.map domCe)) := by
        intro X
        have := objsOf_get hLi
        rw [hEs] at this
        rw [List.getElem?_append_right (by simp [Z]), List.getElem?_append_left (by simp [Z]; omega)]
        simpa [Z] using this
      have hsrc' : ∀ (X : Heap) (h2), (Z s rf R ++ (Es ++ X))[3 + i]'h2 = .tree [] (L.map domCe) := by
        intro X h2
        have := hsrc X
        rw [List.getElem?_eq_getElem h2] at this
        exact Option.some.inj this
      have hw : IntKind.i64.wrap ((i : Int) + 1) = ((i + 1 : Nat) : Int) := by rw [wrap64] <;> omega
      refine vc_cut (At [(3, .ptr n 1 0 0), (16, .own 2 1 0 k k), (17, V.i k), (18, V.i i), (19, .bool true)] (Z s rf R ++ (Es ++ E))) (by simp [h, At, hil]) ?_
      clear h
      rintro ⟨sl, hp, bs⟩ ⟨rfl, h⟩
      simp only [sls_cons, sls_one] at h
      refine vc_cut (At [(3, .ptr n 1 0 0), (16, .own 2 1 0 k k), (17, V.i k), (18, V.i i)] (Z s rf R ++ (Es ++ E))) (by simp [h, At]) ?_
      clear h
      rintro ⟨sl, hp, bs⟩ ⟨rfl, h⟩
      simp only [sls_cons, sls_one] at h
      refine vc_cut (fun st => ∃ E, CI s ms n (i + 1) E ∧ At [(3, .ptr n 1 0 0), (16, .own 2 1 0 k k), (17, V.i k), (18, V.i i)] (Z s rf R ++ (Es ++ E)) st) (vc_block_of ?_) ?_
      · refine vc_cut (At [(3, .ptr n 1 0 0), (5, .own (3 + i) 4 0 L.length L.length), (16, .own 2 1 0 k k), (17, V.i k), (18, V.i i)] (Z s rf R ++ (Es ++ E))) ?_ ?_
        · have hlt : i < R.length := by omega
          have hRi' : R[i] = [.own (3 + i) 4 0 L.length L.length] := by rw [List.getElem?_eq_getElem hlt] at hRi; exact Option.some.inj hRi
          simp [h, At, hil, hRi', hlt]
          omega
        clear h
        rintro ⟨sl, hp, bs⟩ ⟨rfl, h⟩
        simp only [sls_cons, sls_one] at h
        have hoid : (3 + i) < n := by omega
        cases hE with
        | zero hi0 =>
          simp [h, z0, z1, z2, z3, z4, z5, z6]
          refine calla_one (cloneT_spec L hLl) (3 + i) ?_ (hsrc _) (treeD_clo L) (treeD_clo L) (by simp [memD_clo]) ?_ ?_ (by simp) ?_
          · simp [h, V.idsL, V.ids, addAll]
          · simp [h, V.oid]
            omega
          · simp [h, V.idsL, V.ids]
          · rw [set_same (hsrc _)]
            simp [h, z0, z1, z2, z3, z4, z5, z6, Nat.add_assoc]
            subst hi0
            refine ⟨_, .some (T := [.mem false [] (L.map Dom.row)]) (by omega) rfl (fun j M hj hM => ?_) (G := .mem false [n + 4] [[.own (n + 4) 4 0 L.length L.length]]) (rf := [n + 1, n + 3]) (rf' := [n + 4]) (by simp) (by simp), ?_, ?_⟩
            · obtain rfl : j = 0 := by omega
              rw [hLi] at hM
              cases hM
              rfl
            · rw [cR_succ _ hLi]
              rfl
            · simp
        | some hi hl hk hr hr' =>
          rename_i rf1 rf2 G T
          simp [h, z0, z1, z2, z3, z4, z5, z6]
          refine calla_one (cloneT_spec L hLl) (3 + i) ?_ (hsrc _) (treeD_clo L) (treeD_clo L) (by simp [memD_clo]) ?_ ?_ (by simp) ?_
          · simp [h, V.idsL, V.ids, addAll]
          · simp [h, V.oid]
            omega
          · simp [h, V.idsL, V.ids]
          · rw [set_same (hsrc _)]
            have hcl : (cR (n + 4) ms i).length = i := cR_len _ (by omega)
            simp [h, z0, z1, z2, z3, z4, z5, z6, Nat.add_assoc, hcl]
            have hTl : n + (T.length + 6) = n + 4 + 3 * i := by omega
            rw [hTl]
            refine ⟨by omega, _, .some (G := G) (rf := if n + 3 ∈ rf1 then rf1 else rf1 ++ [n + 3]) (rf' := if n + 4 + 3 * i ∈ rf2 then rf2 else rf2 ++ [n + 4 + 3 * i])
              (T := T ++ [.mem false [n + 4 + 3 * i] [[.own (n + 4 + 3 * i) 4 0 L.length L.length]], .res, .mem false [] (L.map Dom.row)]) (by omega) (by simp; omega) (fun j M hj hM => ?_) (fun r hr0 => ?_) (fun r hr0 => ?_), ?_, ?_⟩
            · by_cases hji : j = i
              · subst hji
                rw [hLi] at hM
                cases hM
                rw [List.getElem?_append_right (by omega)]
                have : 3 * j - T.length = 2 := by omega
                rw [this]; rfl
              · have := hk j M (by omega) hM
                rw [List.getElem?_append_left (lt_of_get this)]
                exact this
            · split at hr0
              · have := hr r hr0; omega
              · rw [List.mem_append] at hr0
                rcases hr0 with hr0 | hr0
                · have := hr r hr0; omega
                · simp at hr0; omega
            · split at hr0
              · have := hr' r hr0; omega
              · rw [List.mem_append] at hr0
                rcases hr0 with hr0 | hr0
                · have := hr' r hr0; omega
                · simp at hr0; omega
            · rw [cR_succ _ hLi]
            · simp
      · clear h
        rintro ⟨sl, hp, bs⟩ ⟨E, hE, rfl, h⟩
        simp only [sls_cons, sls_one] at h
        have hl2 := hE.len
        have hZt : (Z s rf R).map (limO (n + 3 * k + 10)) = Z s rf R := by
          simp only [Z, List.map_cons, List.map_nil]
          rw [limO_of (by simp [O.refs] <;> omega), limO_of (by simp [O.refs]), limO_of fun r hr => by
            have hr : r ∈ rf := hr
            rw [hrf, List.mem_range'_1] at hr; omega]
        have hEt : Es.map (limO (n + 3 * k + 10)) = Es := by
          rw [← hEs]
          simp [objsOf, Function.comp_def, limO_of, O.refs]
        have hall : List.take (n + 3 * k + 10) (Z s rf R ++ (Es ++ E.map (limO (n + 3 * k + 10)))) = Z s rf R ++ (Es ++ E.map (limO (n + 3 * k + 10))) := List.take_of_length_le (by rw [z4]; simp; omega)
        simp [h, hw, hil, hZt, hEt, hall]
        refine ⟨_, hE.trim (by omega), rfl, ?_⟩
        simp
        omega
    · have hik : i = k := by omega
      subst hik
      refine vc_cut (At [(3, .ptr n 1 0 0), (19, .bool false)] (Z s rf R ++ (Es ++ E))) (by simp [h, At]) ?_
      clear h
      rintro ⟨sl, hp, bs⟩ ⟨rfl, h⟩
      simp only [sls_cons, sls_one] at h
      simp [h, At]
      exact hE
  · clear h
    rintro ⟨sl, hp, bs⟩ ⟨E, hE, rfl, h⟩
    simp only [sls_cons, sls_one] at h
    simp [h, dom_Store_Copy.rs]
    rw [← hk]
    exact hE
end Go.Abs.G

namespace Go.Abs.G
open Go.Proofs
set_option linter.unusedVariables false
set_option linter.unusedSimpArgs false

theorem close_storeO {w : World} {β : Nat → Hd} {F : Nat → Prop} {H : Heap} {s : List Dom} {T : List (List Ce)} {rf rb : List Nat} {p a b : Nat} (hk : HOK w.heap H β F)
    (h0 : H[p]? = some (.mem false rf [[.own a 4 0 s.length s.length, .own b 1 0 T.length T.length]])) (ha : H[a]? = some (.mem false [] (s.map Dom.row))) (hb : H[b]? = some (.tree rb T)) (hT : Ce.idsR T = [])
    (na : a ≠ p) (nb : b ≠ p) (nab : a ≠ b) (hlo : (β p).lo = 0) : ∃ β' H2, Adv F w H β w H2 β' ∧ H2[p]? = some (St1 s T) ∧ H2.length = H.length ∧ ∀ j, j ≠ p → j ≠ a → j ≠ b → H2[j]? = H[j]? := by
  obtain ⟨β1, a1⟩ := adv_toTree hk h0 hlo
  generalize hP : O.tree rf (flatC [[.own a 4 0 s.length s.length, .own b 1 0 T.length T.length]]) = P at a1
  have p1 : (H.set p P)[p]? = some (.tree rf [[.v (.own a 4 0 s.length s.length), .v (.own b 1 0 T.length T.length)]]) := by rw [get_set h0, ← hP]; rfl
  have q1 : (H.set p P)[a]? = some (.mem false [] (s.map Dom.row)) := by rw [getElem?_set_ne' na]; exact ha
  have r1 : (H.set p P)[b]? = some (.tree rb T) := by rw [getElem?_set_ne' nb]; exact hb
  have la : (β1 a).lo = 0 := lo_of_tree (i := 0) (j := 0) a1.hok p1 rfl rfl (by unfold hdOf; rw [q1]; simp)
  have hl1 : (H.set p P).length = H.length := List.length_set
  have o1 : ∀ j, j ≠ p → j ≠ a → j ≠ b → (H.set p P)[j]? = H[j]? := fun j h1 h2 h3 => getElem?_set_ne' h1
  generalize H.set p P = H1 at a1 p1 q1 r1 hl1 o1
  obtain ⟨β2, a2⟩ := adv_toTree a1.hok q1 la
  rw [← domCe_flat] at a2
  have p2 : (H1.set a (.tree [] (s.map domCe)))[p]? = some (.tree rf [[.v (.own a 4 0 s.length s.length), .v (.own b 1 0 T.length T.length)]]) := by rw [getElem?_set_ne' (Ne.symm na)]; exact p1
  have q2 : (H1.set a (.tree [] (s.map domCe)))[a]? = some (.tree [] (s.map domCe)) := get_set q1
  have r2 : (H1.set a (.tree [] (s.map domCe)))[b]? = some (.tree rb T) := by rw [getElem?_set_ne' (Ne.symm nab)]; exact r1
  have hl2 : (H1.set a (.tree [] (s.map domCe))).length = H.length := by rw [List.length_set]; exact hl1
  have o2 : ∀ j, j ≠ p → j ≠ a → j ≠ b → (H1.set a (.tree [] (s.map domCe)))[j]? = H[j]? := fun j h1 h2 h3 => (getElem?_set_ne' h2).trans (o1 j h1 h2 h3)
  generalize H1.set a (.tree [] (s.map domCe)) = H2 at a2 p2 q2 r2 hl2 o2
  obtain ⟨β3, a3⟩ := adv_pack (i := 0) (j := 0) a2.hok p2 q2 (Ne.symm na) rfl rfl (by simp)
  generalize hP3 : O.tree (rf ++ []) _ = P3 at a3
  have p3 : ((H2.set a O.dead).set p P3)[p]? = some (.tree (rf ++ []) [[.n 4 (s.map domCe), .v (.own b 1 0 T.length T.length)]]) := by rw [get_set (x := _) (by rw [getElem?_set_ne' (Ne.symm na)]; exact p2), ← hP3]; rfl
  have r3 : ((H2.set a O.dead).set p P3)[b]? = some (.tree rb T) := by rw [getElem?_set_ne' nb, getElem?_set_ne' (Ne.symm nab)]; exact r2
  have hl3 : ((H2.set a O.dead).set p P3).length = H.length := by rw [List.length_set, List.length_set]; exact hl2
  have o3 : ∀ j, j ≠ p → j ≠ a → j ≠ b → ((H2.set a O.dead).set p P3)[j]? = H[j]? := fun j h1 h2 h3 => (getElem?_set_ne' h1).trans ((getElem?_set_ne' h2).trans (o2 j h1 h2 h3))
  generalize (H2.set a O.dead).set p P3 = H3 at a3 p3 r3 hl3 o3
  obtain ⟨β4, a4⟩ := adv_pack (i := 0) (j := 1) a3.hok p3 r3 (Ne.symm nb) rfl rfl rfl
  generalize hP4 : O.tree (rf ++ [] ++ rb) _ = P4 at a4
  have p4 : ((H3.set b O.dead).set p P4)[p]? = some (.tree (rf ++ [] ++ rb) [[.n 4 (s.map domCe), .n 1 T]]) := by rw [get_set (x := _) (by rw [getElem?_set_ne' (Ne.symm nb)]; exact p3), ← hP4]; rfl
  have hl4 : ((H3.set b O.dead).set p P4).length = H.length := by rw [List.length_set, List.length_set]; exact hl3
  have o4 : ∀ j, j ≠ p → j ≠ a → j ≠ b → ((H3.set b O.dead).set p P4)[j]? = H[j]? := fun j h1 h2 h3 => (getElem?_set_ne' h1).trans ((getElem?_set_ne' h3).trans (o3 j h1 h2 h3))
  generalize (H3.set b O.dead).set p P4 = H4 at a4 p4 hl4 o4
  obtain ⟨β5, a5⟩ := adv_refsT (refs' := []) a4.hok p4 (by simp [Ce.idsR, Ce.idsL, Ce.ids, domCe_ids, hT])
  exact ⟨β5, _, a1.trans (a2.trans (a3.trans (a4.trans a5))), get_set p4, by rw [List.length_set]; exact hl4, fun j h1 h2 h3 => (getElem?_set_ne' h1).trans (o4 j h1 h2 h3)⟩

/-- A store that lies open, its marks too, as one object. -/
theorem close_gen {w : World} {β : Nat → Hd} {F : Nat → Prop} {H : Heap} {vs : Array Value} {xs : List V} {q : Nat} {s : List Dom} {ms : List (List Dom)} {rf rb : List Nat} {p a b : Nat} {K : List Kid} (hk : HOK w.heap H β F)
    (hr : RVs (cx w.heap H β F) vs xs) (hq : xs[q]? = some (.ptr p 1 0 0))
    (h0 : H[p]? = some (.mem false rf [[.own a 4 0 s.length s.length, .own b 1 0 ms.length ms.length]])) (ha : H[a]? = some (.mem false [] (s.map Dom.row)))
    (hb : H[b]? = some (.mem false rb (K.map fun c => [.own c.id c.es 0 c.L.length c.L.length]))) (hK : K.map Kid.L = ms.map fun L => L.map domCe) (hes : ∀ c ∈ K, c.es = 4) (hc : ∀ c ∈ K, H[c.id]? = some (.tree c.refs c.L))
    (hnd : (K.map Kid.id).Nodup) (kp : p ∉ K.map Kid.id) (ka : a ∉ K.map Kid.id) (kb : b ∉ K.map Kid.id)
    (na : a ≠ p) (nb : b ≠ p) (nab : a ≠ b) : ∃ β' H2, Adv F w H β w H2 β' ∧ H2[p]? = some (St1 s (mT ms)) ∧ H2.length = H.length ∧ ∀ j, j ≠ p → j ≠ a → j ≠ b → j ∉ K.map Kid.id → H2[j]? = H[j]? := by
  have hKl : K.length = ms.length := by have := congrArg List.length hK; simpa using this
  have lp := lo_arg hr hq (by unfold hdOf; rw [h0]; rfl)
  have lb : (β b).lo = 0 := lo_of_cell (p := p) (c := b) (i := 0) (j := 1) hk h0 lp rfl rfl (by unfold hdOf; rw [hb]; simp [hKl])
  obtain ⟨β1, a1⟩ := adv_toTree hk hb lb
  have hfl : flatC (K.map fun c => [.own c.id c.es 0 c.L.length c.L.length]) = K.map Kid.own := by simp [flatC, Kid.own, Function.comp_def]
  rw [hfl] at a1
  obtain ⟨β2, H2, rf2, a2, b1, b2, b3⟩ := adv_packAll (id := b) K [] _ β1 rb a1.hok (get_set hb) (fun c hcm => by
    have hne : c.id ≠ b := fun e => kb (e ▸ List.mem_map_of_mem hcm)
    exact ⟨by rw [getElem?_set_ne' hne]; exact hc c hcm, hne⟩) hnd
  have hT : ([] ++ K).map Kid.nest = mT ms := by
    have h1 : K.map Kid.nest = (K.map Kid.L).map fun L => [Ce.n 4 L] := by
      rw [List.map_map]
      exact List.map_congr_left fun c hcm => by simp [Kid.nest, hes c hcm]
    rw [List.nil_append, h1, hK]; simp [mT, Function.comp_def]
  rw [hT] at b1
  have hTl : (mT ms).length = ms.length := by simp [mT]
  obtain ⟨β3, H3, a3, c1, c2, c3⟩ := close_storeO (p := p) (a := a) (b := b) (s := s) (T := mT ms) (rf := rf) a2.hok (by rw [b3 p (Ne.symm nb) kp, getElem?_set_ne' (Ne.symm nb), hTl]; exact h0) (by rw [b3 a nab ka, getElem?_set_ne' nab]; exact ha) b1 (mT_ids ms) na nb nab
    (lo_arg (hr.mono (a1.trans a2).le) hq (by unfold hdOf; rw [b3 p (Ne.symm nb) kp, getElem?_set_ne' (Ne.symm nb), h0]; rfl))
  refine ⟨β3, H3, a1.trans (a2.trans a3), c1, by rw [c2, b2, List.length_set], fun j h1 h2 h3 h4 => ?_⟩
  rw [c3 j h1 h2 h3, b3 j h3 h4, getElem?_set_ne' h3]
end Go.Abs.G
