import Derived.Test.YtbmfhpbkfigpjaaR5
set_option linter.all false
/- Contracts: of what a call leaves, the objects that its caller wants, numbered anew. -/
namespace Go.Abs
set_option linter.unusedVariables false

theorem HOK.less {hp : Array Obj} {H : Heap} {β : Nat → Hd} {F F' : Nat → Prop} (hk : HOK hp H β F) (h : ∀ b, F' b → F b) : HOK hp H β F' ∧ (cx hp H β F).le (cx hp H β F') := by
  have hle : (cx hp H β F).le (cx hp H β F') := ⟨Nat.le_refl _, fun b hb hn => ⟨rfl, fun e => hn (e.imp id (h b))⟩, fun _ h => h, fun _ _ _ e => .inl e⟩
  exact ⟨⟨fun i o ho => (hk.ro i o ho).mono hle rfl (fun hn e => hn (e.imp (fun x => x) (h _))) fun _ _ _ _ _ _ => rfl, hk.one, fun b hb => hk.far b (h b hb)⟩, hle⟩

theorem DC.pick {P : Program} {f : FuncId} {xs : List V} {H : Heap} {Q Q' : V → Heap → Prop} (h : DC P f xs H Q)
    (hq : ∀ x H', Q x H' → ∃ sel, OkSel H' sel ∧ (∀ i, i < H.length → sel[i]? = some i) ∧ (∀ i ∈ x.ids, i ∈ sel) ∧ Q' (x.ren (idx sel)) (Abs.sub H' sel)) : DC P f xs H Q' := fun w β F vs hk hr =>
  (h w β F vs hk hr).mono fun e w' ⟨r, x, H', β2, h1, h2, h3, h4⟩ => by
    obtain ⟨sel, ok, hn, hx, hQ⟩ := hq x H' h4
    obtain ⟨k1, k2⟩ := (sub_ok h2.hok ok).less (F' := F) fun b hb => .inl hb
    have hsub : ∀ id, id < H.length → (Abs.sub H' sel)[id]? = (H'[id]?).map (O.ren (idx sel)) ∧ βsub β2 sel id = β2 id := fun id hid => by
      obtain ⟨h5, h6⟩ := List.getElem?_eq_some_iff.1 (hn id hid)
      have h7 : sel.getD id 0 = id := by simp [List.getD, hn id hid]
      exact ⟨by rw [sub_get ok h5, h7], by unfold βsub; rw [h7]⟩
    refine ⟨r, _, _, βsub β2 sel, h1, ⟨k1, ⟨h2.le.size, fun b hb hno => ⟨(h2.le.same b hb hno).1, fun e => (h2.le.same b hb hno).2 ?_⟩, fun id hl => ?_, fun id g' hl e => ?_⟩, h2.ext⟩, ?_, hQ⟩
    · rcases e with ⟨j, e⟩ | e
      · exact .inl ⟨_, (owns_sub ok e).2⟩
      · exact .inr e
    · have hlt : id < H.length := by obtain ⟨o, e, _⟩ := hl; exact lt_of_get e
      exact (liveIn_ren (hsub id hlt).1).2 (h2.le.live id hl)
    · have hlt : id < H.length := by obtain ⟨o, e, _⟩ := hl; exact lt_of_get e
      refine h2.le.hd id g' hl ?_
      have e' : hdOf (Abs.sub H' sel) (βsub β2 sel) id = some g' := e
      rw [hdOf_ren (hsub id hlt).1 (hsub id hlt).2] at e'
      exact e'
    · have h5 := (h3.onlyOf x.ids fun i hi => hi).ren (ren_sub (w := w') (F := F) ok hx)
      exact h5.up.mono k2

/-- The same, for results that are just this, over just this. -/
theorem DC.picks {P : Program} {f : FuncId} {xs : List V} {H : Heap} {Q : V → Heap → Prop} {r : V} {K : Heap} (h : DC P f xs H Q)
    (hq : ∀ x H', Q x H' → ∃ sel, OkSel H' sel ∧ (∀ i, i < H.length → sel[i]? = some i) ∧ (∀ i ∈ x.ids, i ∈ sel) ∧ x.ren (idx sel) = r ∧ Abs.sub H' sel = K) : DC P f xs H fun x H' => x = r ∧ H' = K :=
  h.pick fun x H' hQ => by obtain ⟨sel, a, b, c, d, e⟩ := hq x H' hQ; exact ⟨sel, a, b, c, d, e⟩

/-- A slice without elements, as one of its own. -/
theorem DC.ownnil {P : Program} {f : FuncId} {xs : List V} {H : Heap} {Q Q' : V → Heap → Prop} (h : DC P f xs H Q)
    (hq : ∀ x H', Q x H' → Q' x H' ∨ ∃ es, (x = .a (.slice none 0 0) ∨ ∃ es', x = .nul es') ∧ Q' (.own H'.length es 0 0 0) (H' ++ [.mem false [] []])) : DC P f xs H Q' := fun w β F vs hk hr =>
  (h w β F vs hk hr).mono fun e w' ⟨r, x, H', β2, h1, h2, h3, h4⟩ => by
    rcases hq x H' h4 with hQ | ⟨es, hx, hQ⟩
    · exact ⟨r, x, H', β2, h1, h2, h3, hQ⟩
    · obtain ⟨ad, rfl⟩ : ∃ ad, r = .slice ad 0 0 := by
        rcases hx with rfl | ⟨es', rfl⟩
        · exact ⟨none, h3.of_a⟩
        · cases h3 with
          | nul => exact ⟨_, rfl⟩
      have a1 := adv_res (F := F) h2.hok 1
      have hg : (H' ++ List.replicate 1 O.res)[H'.length]? = some O.res := by simp
      have a2 := new_nil (es := es) (refs := []) (F := F) a1.hok hg
      have e : (H' ++ List.replicate 1 O.res).set H'.length (.mem false [] []) = H' ++ [.mem false [] []] := by
        rw [List.set_append, if_neg (by omega), Nat.sub_self]; rfl
      have a3 := nil_own (es := es) (refs := []) (ad := ad) (hp := w'.heap) (F := F) (β := β2) hg
      rw [e] at a2 a3
      exact ⟨_, _, _, _, h1, h2.trans (a1.trans a2), a3, hQ⟩

/-- An argument that is a slice of one's own without elements, by what it may be. -/
theorem DC.own0 {P : Program} {f : FuncId} {es : Nat} {ys : List V} {H : Heap} {Q : V → Heap → Prop} {id : Nat} {refs : List Nat} (hid : H[id]? = some (.mem false refs []))
    (h : ∀ ad c, (ad = none → c = 0) → DC P f (.a (.slice ad 0 c) :: ys) H Q) : DC P f (.own id es 0 0 0 :: ys) H Q := by
  intro w β F vs hk hr
  have hlt : 0 < vs.size := by have := hr.1; simp at this; omega
  have hv := hr.2 0 vs[0] (.own id es 0 0 0) (by simp [hlt]) rfl
  have hd : hdOf H β id = some ((β id).wt 0) := by unfold hdOf; rw [hid]; rfl
  have key : ∃ ad c, (ad = none → c = 0) ∧ vs[0] = .slice ad 0 c := by
    generalize vs[0] = v at hv
    cases hv with
    | own hl hh =>
      obtain ⟨_, g⟩ := hh _ hd
      obtain ⟨_, _, g⟩ := g rfl
      rcases g with ⟨_, ⟨ad, rfl⟩, _⟩ | ⟨_, ad, rfl, _⟩
      · exact ⟨ad, 0, fun _ => rfl, rfl⟩
      · exact ⟨some ad, _, (fun e => by cases e), rfl⟩
  obtain ⟨ad, c, h1, h2⟩ := key
  refine h ad c h1 w β F vs hk ⟨by simpa using hr.1, fun i v x hv' hx => ?_⟩
  cases i with
  | zero =>
    rw [Array.getElem?_eq_getElem hlt] at hv'
    injection hv' with hv'
    injection hx with hx
    subst hx
    rw [← hv', h2]; exact .a
  | succ i => exact hr.2 (i + 1) v x hv' (by simpa using hx)
end Go.Abs

namespace Go.Abs.G
open Go.Proofs
set_option linter.unusedVariables false
set_option linter.unusedSimpArgs false
attribute [local simp] I.vc

/-- A copy of a slice of domains. -/
theorem cloneD_spec (L : List Dom) (hl : L.length ≤ 64) : DC Try.prog slices_Clone_Ldom_domain_dom_domain.id [.own 0 4 0 L.length L.length] [.mem false [] (L.map Dom.row)]
    (fun r H => r = .own 1 4 0 L.length L.length ∧ H = [.mem false [] (L.map Dom.row), .mem false [] (L.map Dom.row)]) := by
  by_cases hL : L = []
  · subst hL
    refine DC.own0 (refs := []) rfl fun ad c hc => ?_
    refine DC.ownnil (Q := fun r H => (r = .a (.slice none 0 0) ∨ r = .nul 4) ∧ H = [.mem false [] []]) ?_ ?_
    · refine DC.pick (Q := fun r H => (r = .a (.slice none 0 0) ∨ r = .nul 4) ∧ ∃ E, H = .mem false [] [] :: E) ?_ ?_
      · refine DC.of slices_Clone_Ldom_domain_dom_domain.ok (by simp) ?_
        cases ad with
        | none =>
          obtain rfl := hc rfl
          simp [slices_Clone_Ldom_domain_dom_domain.ir, slices_Clone_Ldom_domain_dom_domain.rs]
        | some ad => simp [slices_Clone_Ldom_domain_dom_domain.ir, slices_Clone_Ldom_domain_dom_domain.rs]
      · rintro r H ⟨hr, E, rfl⟩
        refine ⟨[0], by simp [O.refs], by simp, by rcases hr with rfl | rfl <;> simp, by rcases hr with rfl | rfl <;> simp, by simp [sub]⟩
    · rintro r H ⟨hr, rfl⟩
      refine .inr ⟨4, hr.imp id fun h => ⟨4, h⟩, rfl, rfl⟩
  · have hp : 0 < L.length := List.length_pos_iff.2 hL
    refine DC.picks (Q := fun r H => r = .own 2 4 0 L.length L.length ∧ ∃ B E, H = .mem false [] (L.map Dom.row) :: B :: .mem false [] (L.map Dom.row) :: E) ?_ ?_
    · refine DC.of slices_Clone_Ldom_domain_dom_domain.ok (by simp) ?_
      simp [slices_Clone_Ldom_domain_dom_domain.ir, slices_Clone_Ldom_domain_dom_domain.rs, hL]
      exact ⟨by omega, List.take_of_length_le (by simp)⟩
    · rintro r H ⟨rfl, B, E, rfl⟩
      exact ⟨[0, 2], by simp [O.refs], by simp, by simp, rfl, by simp [sub]⟩

theorem lo_own {w : World} {β : Nat → Hd} {F : Nat → Prop} {H : Heap} {vs : Array Value} {xs : List V} {i id n es : Nat} (hr : RVs (cx w.heap H β F) vs xs) (hi : xs[i]? = some (.own id es 0 n n)) (hd : hdOf H β id = some ((β id).wt n)) : (β id).lo = 0 := by
  have hlt := lt_of_get hi
  obtain ⟨v, hv⟩ : ∃ v, vs[i]? = some v := ⟨vs[i]'(by rw [hr.1]; exact hlt), Array.getElem?_eq_getElem _⟩
  have h := hr.2 i v _ hv hi
  cases h with
  | own hl hh => exact Nat.le_zero.1 ((hh _ hd).2 rfl).1

/-- The same, of a slice that lies within another. -/
theorem cloneT_spec (L : List Dom) (hl : L.length ≤ 64) : DC Try.prog slices_Clone_Ldom_domain_dom_domain.id [.own 0 4 0 L.length L.length] [.tree [] (L.map domCe)]
    (fun r H => r = .own 1 4 0 L.length L.length ∧ H = [.tree [] (L.map domCe), .mem false [] (L.map Dom.row)]) := by
  refine DC.pre (H1 := [.mem false [] (L.map Dom.row)]) (fun w β F vs hk hr => ?_) (DC.post' (cloneD_spec L hl) ?_)
  · exact adv_toMem (id := 0) (refs := []) (rows := L.map Dom.row) hk (by rw [← domCe_flat]; rfl)
  · rintro x H1 ⟨rfl, rfl⟩ w β F vs hk hr
    have l0 := lo_own (i := 1) hr rfl (by simp [hdOf])
    obtain ⟨β1, a1⟩ := adv_toTree (id := 0) hk rfl l0
    refine ⟨β1, _, a1, rfl, ?_⟩
    rw [domCe_flat]; rfl
end Go.Abs.G

namespace Go.Abs.G
open Go.Proofs
set_option linter.unusedVariables false
set_option linter.unusedSimpArgs false

section
variable {s : List Dom} {rf : List Nat} {R : List (List V)} {Es L : Heap} {n c : Nat}
theorem Zn (h : n = 3 + Es.length) (L : Heap) (c : Nat) : (Z s rf R ++ (Es ++ L))[n + c]? = L[c]? := by
  subst h
  rw [List.getElem?_append_right (by simp [Z]; omega), List.getElem?_append_right (by simp [Z]; omega)]
  congr 1; simp [Z]; omega
theorem Zn0 (h : n = 3 + Es.length) (L : Heap) : (Z s rf R ++ (Es ++ L))[n]? = L[0]? := Zn h L 0
theorem Zs (h : n = 3 + Es.length) (L : Heap) (c : Nat) (o : O) : (Z s rf R ++ (Es ++ L)).set (n + c) o = Z s rf R ++ (Es ++ L.set c o) := by
  subst h
  rw [List.set_append, if_neg (by simp [Z]; omega), List.set_append, if_neg (by simp [Z]; omega)]
  have : 3 + Es.length + c - (Z s rf R).length - Es.length = c := by simp [Z]; omega
  rw [this]
theorem Zs0 (h : n = 3 + Es.length) (L : Heap) (o : O) : (Z s rf R ++ (Es ++ L)).set n o = Z s rf R ++ (Es ++ L.set 0 o) := Zs h L 0 o
theorem Zg (h : n = 3 + Es.length) (L : Heap) (c : Nat) (h2) : (Z s rf R ++ (Es ++ L))[n + c]'h2 = L[c]'(by subst h; simp [Z] at h2; omega) := by
  have e := Zn (s := s) (rf := rf) (R := R) h L c
  rw [List.getElem?_eq_getElem h2] at e
  exact (Option.some.inj (e.trans (List.getElem?_eq_getElem _)))
theorem Zg0 (h : n = 3 + Es.length) (L : Heap) (h2) : (Z s rf R ++ (Es ++ L))[n]'h2 = L[0]'(by subst h; simp [Z] at h2; omega) := Zg h L 0 h2
theorem Zl (h : n = 3 + Es.length) (L : Heap) : (Z s rf R ++ (Es ++ L)).length = n + L.length := by subst h; simp [Z]; omega
end

theorem Z_sub1 {s : List Dom} {rf : List Nat} {R : List (List V)} {X : Heap} : sub (Z s rf R ++ X) [1] = [.mem false [] (s.map Dom.row)] := by
  simp [sub, Z, O.ren, Function.comp_def]
theorem Z_merge1 {s : List Dom} {rf : List Nat} {R : List (List V)} {X : Heap} : merge (Z s rf R ++ X) [1] [.mem false [] (s.map Dom.row), .mem false [] (s.map Dom.row)] = Z s rf R ++ (X ++ [.mem false [] (s.map Dom.row)]) := by
  simp [merge, place, Z, O.ren, Function.comp_def]
/-- A copy's slice of marks: where each lies. -/
def cR (b : Nat) (ms : List (List Dom)) (i : Nat) : List (List V) := ((ms.take i).zipIdx).map fun p => [.own (b + 3 * p.2) 4 0 p.1.length p.1.length]
/-- What stands behind i marks copied, behind the original. -/
inductive CI (s : List Dom) (ms : List (List Dom)) (n : Nat) : Nat → Heap → Prop where
  | zero {i : Nat} (hi : i = 0) : CI s ms n i [.mem false [n + 1] [[.own (n + 1) 4 0 s.length s.length, nilS]], .mem false [] (s.map Dom.row)]
  | some {i : Nat} {rf rf' : List Nat} {G : O} {T : Heap} (hi : 0 < i) (hl : T.length = 3 * i - 2) (hk : ∀ j L, j < i → ms[j]? = some L → T[3 * j]? = some (.mem false [] (L.map Dom.row)))
      (hr : ∀ r ∈ rf, r < n + 4 + 3 * i) (hr' : ∀ r ∈ rf', r < n + 4 + 3 * i) : CI s ms n i (.mem false rf [[.own (n + 1) 4 0 s.length s.length, .own (n + 3) 1 0 i i]] :: .mem false [] (s.map Dom.row) :: G :: .mem false rf' (cR (n + 4) ms i) :: T)

theorem CI.len {s : List Dom} {ms : List (List Dom)} {n i : Nat} {E : Heap} (h : CI s ms n i E) : E.length = 2 + 3 * i := by
  cases h with
  | zero hi => simp [hi]
  | some hi hl hk hr hr' => simp [hl]; omega
theorem limO_of {m : Nat} {o : O} (h : ∀ r ∈ o.refs, r < m) : limO m o = o := by
  unfold limO; rw [if_pos (List.all_eq_true.2 fun r hr => by simpa using h r hr)]
theorem CI.trim {s : List Dom} {ms : List (List Dom)} {n i m : Nat} {E : Heap} (h : CI s ms n i E) (hm : n + 4 + 3 * i ≤ m) : CI s ms n i (E.map (limO m)) := by
  cases h with
  | zero hi =>
    rw [List.map_cons, List.map_cons, List.map_nil, limO_of (by simp [O.refs]; omega), limO_of (by simp [O.refs])]
    exact .zero hi
  | some hi hl hk hr hr' =>
    rw [List.map_cons, List.map_cons, List.map_cons, List.map_cons, limO_of (fun r h => by have := hr r h; omega), limO_of (by simp [O.refs]), limO_of (o := .mem false _ (cR (n + 4) ms i)) (fun r h => by have := hr' r h; omega)]
    refine .some hi (by simpa using hl) (fun j L hj hL => ?_) hr hr'
    rw [List.getElem?_map, hk j L hj hL, Option.map_some, limO_of (by simp [O.refs])]
theorem rowsOf_get {ms : List (List Dom)} {i : Nat} {L : List Dom} (h : ms[i]? = some L) : (rowsOf' ms)[i]? = some [.own (3 + i) 4 0 L.length L.length] := by
  have := kids_get 4 3 (ms.map fun L => L.map domCe) i (L.map domCe) (by simp [h])
  simp [rowsOf', kidsOf, this]
theorem objsOf_get {ms : List (List Dom)} {i : Nat} {L : List Dom} (h : ms[i]? = some L) : (objsOf ms)[i]? = some (.tree [] (L.map domCe)) := by simp [objsOf, h]
theorem cR_succ (b : Nat) {ms : List (List Dom)} {i : Nat} {L : List Dom} (h : ms[i]? = some L) : cR b ms (i + 1) = cR b ms i ++ [[.own (b + 3 * i) 4 0 L.length L.length]] := by
  have hi := lt_of_get h
  have hL : ms[i] = L := by rw [List.getElem?_eq_getElem hi] at h; exact Option.some.inj h
  unfold cR
  rw [List.take_succ_eq_append_getElem hi, List.zipIdx_append, List.map_append, hL]
  have : (ms.take i).length = i := by rw [List.length_take]; omega
  simp [this]
theorem cR_len (b : Nat) {ms : List (List Dom)} {i : Nat} (h : i ≤ ms.length) : (cR b ms i).length = i := by
  simp [cR]; omega
theorem treeD_ren (L : List Dom) (f : Nat → Nat) : O.ren f (.tree [] (L.map domCe)) = .tree [] (L.map domCe) := by simp [O.ren, domCe_ren]
theorem treeD_clo (L : List Dom) : (O.tree [] (L.map domCe)).clo := ⟨rfl, treeD_ren L, fun e => by cases e⟩
theorem memD_clo (L : List Dom) : (O.mem false [] (L.map Dom.row)).clo := ⟨rfl, fun f => by simp [O.ren, Function.comp_def], fun e => by cases e⟩
theorem trim_at {m : Nat} {st : St} {l : List (Nat × V)} {H H' : Heap} (h : At l H st) (hl : ∀ p ∈ l, lim m p.2 = p.2) (hH : (H.take m).map (limO m) = H') : At l H' (st.trim m) := by
  refine ⟨by show (st.hp.take m).map (limO m) = _; rw [h.1]; exact hH, ?_⟩
  have h2 := h.2
  clear h
  induction l with
  | nil => trivial
  | cons p l ih =>
    cases l with
    | nil => simp only [sls_one] at h2 ⊢; rw [show (st.trim m).sl = trimS m st.sl from rfl, gt_trimS, h2, hl p (by simp)]
    | cons q l => 
      simp only [sls_cons] at h2 ⊢
      exact ⟨by rw [show (st.trim m).sl = trimS m st.sl from rfl, gt_trimS, h2.1, hl p (by simp)], ih (fun r hr => hl r (by simp [hr])) h2.2⟩
set_option maxHeartbeats 2000000 in
theorem copy_open {s : List Dom} {ms : List (List Dom)} (hs : s.length ≤ 64) (hm : ms.length ≤ 1000000) (hL : ∀ L ∈ ms, L.length ≤ 64) :
    DC Try.prog dom_Store_Copy.id [.ptr 0 1 0 0] (Z s (List.range' 3 ms.length) (rowsOf' ms) ++ objsOf ms) (fun r H => r = .ptr (3 + ms.length) 1 0 0 ∧ ∃ E, CI s ms (3 + ms.length) ms.length E ∧ H = Z s (List.range' 3 ms.length) (rowsOf' ms) ++ (objsOf ms ++ E)) := by
  refine DC.of dom_Store_Copy.ok (by simp) ?_
  have hol : (objsOf ms).length = ms.length := by simp [objsOf]
  have hrl := rowsOf_len ms
  obtain ⟨n, hn⟩ : ∃ n, n = 3 + (objsOf ms).length := ⟨_, rfl⟩
  have hn' : 3 + ms.length = n := by omega
  rw [hn']
  obtain ⟨R, hR⟩ : ∃ R, R = rowsOf' ms := ⟨_, rfl⟩
  obtain ⟨rf, hrf⟩ : ∃ rf, rf = List.range' 3 ms.length := ⟨_, rfl⟩
  rw [← hR, ← hrf]
  rw [← hR] at hrl
  have z0 := fun L => Zn0 (s := s) (rf := rf) (R := R) hn L
  have z1 := fun L c => Zn (s := s) (rf := rf) (R := R) hn L c
  have z2 := fun L o => Zs0 (s := s) (rf := rf) (R := R) hn L o
  have z3 := fun L c o => Zs (s := s) (rf := rf) (R := R) hn L c o
  have z5 := fun L c h2 => Zg (s := s) (rf := rf) (R := R) hn L c h2
  have z6 := fun L h2 => Zg0 (s := s) (rf := rf) (R := R) hn L h2
  have z4 := fun L => Zl (s := s) (rf := rf) (R := R) hn L
  generalize hEs : objsOf ms = Es at *
  unfold dom_Store_Copy.ir
  refine vc_cut (At [(0, .ptr 0 1 0 0)] (Z s rf R ++ Es)) (by simp [At]) ?_
  rintro ⟨sl, hp, bs⟩ ⟨rfl, h⟩
  simp only [sls_cons, sls_one] at h
  have z40 : (Z s rf R ++ Es).length = n := by simpa using z4 []
  refine vc_cut (At [(0, .ptr 0 1 0 0), (3, .ptr n 1 0 0)] (Z s rf R ++ (Es ++ [.mem false [n + 1] [[.own (n + 1) 4 0 s.length s.length, nilS]], .mem false [] (s.map Dom.row)]))) ?_ ?_
  · simp [h, z40, V.idsL, V.ids, z0, z1, z2, z3, z4, z5, z6]
    refine callm_go (cloneD_spec s hs) [1] ?_ ?_ ?_ ?_ (by simp) ?_
    · simp [h, V.idsL, V.ids, UE1_clos]
    · simp [h, V.idsL, V.ids, UE1_clos, O.refs]
      omega
    · simp [h, V.idsL, V.ids, UE1_clos]
    · exact Z_sub1
    · rw [Z_merge1]
      simp [z40, z0, z1, z2, z3, z4, z5, z6, h, At]
  clear h
  rintro ⟨sl, hp, bs⟩ ⟨rfl, h⟩
  simp only [sls_cons, sls_one] at h
  obtain ⟨k, hk⟩ : ∃ k, k = ms.length := ⟨_, rfl⟩
  refine vc_cut (fun st => ∃ E, CI s ms n k E ∧ At [(3, .ptr n 1 0 0)] (Z s rf R ++ (Es ++ E)) st) ?_ ?_
  · refine vc_cut (At [(3, .ptr n 1 0 0), (16, .own 2 1 0 k k), (17, V.i k), (18, V.i 0)] (Z s rf R ++ (Es ++ [.mem false [n + 1] [[.own (n + 1) 4 0 s.length s.length, nilS]], .mem false [] (s.map Dom.row)]))) (by simp [h, At, hrl, hk]) ?_
    clear h
    rintro ⟨sl, hp, bs⟩ ⟨rfl, h⟩
    simp only [sls_cons, sls_one] at h
    refine vc_block_of (vc_upto (n + 3 * k + 10) (by simp [z4]; omega) k (fun i st => ∃ E, CI s ms n i E ∧ At [(3, .ptr n 1 0 0), (16, .own 2 1 0 k k), (17, V.i k), (18, V.i i)] (Z s rf R ++ (Es ++ E)) st) ⟨_, .zero rfl, rfl, by simpa using h⟩ ?_)
    clear h
    rintro i ⟨sl, hp, bs⟩ hi ⟨E, hE, rfl, h⟩
    simp only [sls_cons, sls_one] at h
    unfold dom_Store_Copy.b0
    by_cases hil : i < k
    · obtain ⟨L, hLi⟩ : ∃ L, ms[i]? = some L := ⟨_, List.getElem?_eq_getElem (by omega)⟩
      have hLl := hL L (List.mem_of_getElem? hLi)
      have hRi : R[i]? = some [.own (3 + i) 4 0 L.length L.length] := by rw [hR]; exact rowsOf_get hLi
      have hsrc : ∀ X : Heap, (Z s rf R ++ (Es ++ X))[3 + i]? = some (.tree [] (L.map domCe)) := by
        intro X
        have := objsOf_get hLi
        rw [hEs] at this
        rw [List.getElem?_append_right (by simp [Z]), List.getElem?_append_left (by simp [Z]; omega)]
        simpa [Z] using this
      have hsrc' : ∀ (X : Heap) (h2), (Z s rf R ++ (Es ++ X))[3 + i]'h2 = .tree [] (L.map domCe) := by
        intro X h2
        have := hsrc X
        rw [List.getElem?_eq_getElem h2] at this
        exact Option.some.inj this
      have hw : IntKind.i64.wrap ((i : Int) + 1) = ((i + 1 : Nat) : Int) := by rw [wrap64] <;> omega
      refine vc_cut (At [(3, .ptr n 1 0 0), (16, .own 2 1 0 k k), (17, V.i k), (18, V.i i), (19, .bool true)] (Z s rf R ++ (Es ++ E))) (by simp [h, At, hil]) ?_
      clear h
      rintro ⟨sl, hp, bs⟩ ⟨rfl, h⟩
      simp only [sls_cons, sls_one] at h
      refine vc_cut (At [(3, .ptr n 1 0 0), (16, .own 2 1 0 k k), (17, V.i k), (18, V.i i)] (Z s rf R ++ (Es ++ E))) (by simp [h, At]) ?_
      clear h
      rintro ⟨sl, hp, bs⟩ ⟨rfl, h⟩
      simp only [sls_cons, sls_one] at h
      refine vc_cut (fun st => ∃ E, CI s ms n (i + 1) E ∧ At [(3, .ptr n 1 0 0), (16, .own 2 1 0 k k), (17, V.i k), (18, V.i i)] (Z s rf R ++ (Es ++ E)) st) (vc_block_of ?_) ?_
      · refine vc_cut (At [(3, .ptr n 1 0 0), (5, .own (3 + i) 4 0 L.length L.length), (16, .own 2 1 0 k k), (17, V.i k), (18, V.i i)] (Z s rf R ++ (Es ++ E))) ?_ ?_
        · have hlt : i < R.length := by omega
          have hRi' : R[i] = [.own (3 + i) 4 0 L.length L.length] := by rw [List.getElem?_eq_getElem hlt] at hRi; exact Option.some.inj hRi
          simp [h, At, hil, hRi', hlt]
          omega
        clear h
        rintro ⟨sl, hp, bs⟩ ⟨rfl, h⟩
        simp only [sls_cons, sls_one] at h
        have hoid : (3 + i) < n := by omega
        cases hE with
        | zero hi0 =>
          simp [h, z0, z1, z2, z3, z4, z5, z6]
          refine calla_one (cloneT_spec L hLl) (3 + i) ?_ (hsrc _) (treeD_clo L) (treeD_clo L) (by simp [memD_clo]) ?_ ?_ (by simp) ?_
          · simp [h, V.idsL, V.ids, addAll]
          · simp [h, V.oid]
            omega
          · simp [h, V.idsL, V.ids]
          · rw [set_same (hsrc _)]
            simp [h, z0, z1, z2, z3, z4, z5, z6, Nat.add_assoc]
            subst hi0
            refine ⟨_, .some (T := [.mem false [] (L.map Dom.row)]) (by omega) rfl (fun j M hj hM => ?_) (G := .mem false [n + 4] [[.own (n + 4) 4 0 L.length L.length]]) (rf := [n + 1, n + 3]) (rf' := [n + 4]) (by simp) (by simp), ?_, ?_⟩
            · obtain rfl : j = 0 := by omega
              rw [hLi] at hM
              cases hM
              rfl
            · rw [cR_succ _ hLi]
              rfl
            · simp
        | some hi hl hk hr hr' =>
          rename_i rf1 rf2 G T
          simp [h, z0, z1, z2, z3, z4, z5, z6]
          refine calla_one (cloneT_spec L hLl) (3 + i) ?_ (hsrc _) (treeD_clo L) (treeD_clo L) (by simp [memD_clo]) ?_ ?_ (by simp) ?_
          · simp [h, V.idsL, V.ids, addAll]
          · simp [h, V.oid]
            omega
          · simp [h, V.idsL, V.ids]
          · rw [set_same (hsrc _)]
            have hcl : (cR (n + 4) ms i).length = i := cR_len _ (by omega)
            simp [h, z0, z1, z2, z3, z4, z5, z6, Nat.add_assoc, hcl]
            have hTl : n + (T.length + 6) = n + 4 + 3 * i := by omega
            rw [hTl]
            refine ⟨by omega, _, .some (G := G) (rf := if n + 3 ∈ rf1 then rf1 else rf1 ++ [n + 3]) (rf' := if n + 4 + 3 * i ∈ rf2 then rf2 else rf2 ++ [n + 4 + 3 * i])
              (T := T ++ [.mem false [n + 4 + 3 * i] [[.own (n + 4 + 3 * i) 4 0 L.length L.length]], .res, .mem false [] (L.map Dom.row)]) (by omega) (by simp; omega) (fun j M hj hM => ?_) (fun r hr0 => ?_) (fun r hr0 => ?_), ?_, ?_⟩
            · by_cases hji : j = i
              · subst hji
                rw [hLi] at hM
                cases hM
                rw [List.getElem?_append_right (by omega)]
                have : 3 * j - T.length = 2 := by omega
                rw [this]; rfl
              · have := hk j M (by omega) hM
                rw [List.getElem?_append_left (lt_of_get this)]
                exact this
            · split at hr0
              · have := hr r hr0; omega
              · rw [List.mem_append] at hr0
                rcases hr0 with hr0 | hr0
                · have := hr r hr0; omega
                · simp at hr0; omega
            · split at hr0
              · have := hr' r hr0; omega
              · rw [List.mem_append] at hr0
                rcases hr0 with hr0 | hr0
                · have := hr' r hr0; omega
                · simp at hr0; omega
            · rw [cR_succ _ hLi]
            · simp
      · clear h
        rintro ⟨sl, hp, bs⟩ ⟨E, hE, rfl, h⟩
        simp only [sls_cons, sls_one] at h
        have hl2 := hE.len
        have hZt : (Z s rf R).map (limO (n + 3 * k + 10)) = Z s rf R := by
          simp only [Z, List.map_cons, List.map_nil]
          rw [limO_of (by simp [O.refs] <;> omega), limO_of (by simp [O.refs]), limO_of fun r hr => by
            have hr : r ∈ rf := hr
            rw [hrf, List.mem_range'_1] at hr; omega]
        have hEt : Es.map (limO (n + 3 * k + 10)) = Es := by
          rw [← hEs]
          simp [objsOf, Function.comp_def, limO_of, O.refs]
        have hall : List.take (n + 3 * k + 10) (Z s rf R ++ (Es ++ E.map (limO (n + 3 * k + 10)))) = Z s rf R ++ (Es ++ E.map (limO (n + 3 * k + 10))) := List.take_of_length_le (by rw [z4]; simp; omega)
        simp [h, hw, hil, hZt, hEt, hall]
        refine ⟨_, hE.trim (by omega), rfl, ?_⟩
        simp
        omega
    · have hik : i = k := by omega
      subst hik
      refine vc_cut (At [(3, .ptr n 1 0 0), (19, .bool false)] (Z s rf R ++ (Es ++ E))) (by simp [h, At]) ?_
      clear h
      rintro ⟨sl, hp, bs⟩ ⟨rfl, h⟩
      simp only [sls_cons, sls_one] at h
      simp [h, At]
      exact hE
  · clear h
    rintro ⟨sl, hp, bs⟩ ⟨E, hE, rfl, h⟩
    simp only [sls_cons, sls_one] at h
    simp [h, dom_Store_Copy.rs]
    rw [← hk]
    exact hE
end Go.Abs.G

namespace Go.Abs.G
open Go.Proofs
set_option linter.unusedVariables false
set_option linter.unusedSimpArgs false

theorem close_storeO {w : World} {β : Nat → Hd} {F : Nat → Prop} {H : Heap} {s : List Dom} {T : List (List Ce)} {rf rb : List Nat} {p a b : Nat} (hk : HOK w.heap H β F)
    (h0 : H[p]? = some (.mem false rf [[.own a 4 0 s.length s.length, .own b 1 0 T.length T.length]])) (ha : H[a]? = some (.mem false [] (s.map Dom.row))) (hb : H[b]? = some (.tree rb T)) (hT : Ce.idsR T = [])
    (na : a ≠ p) (nb : b ≠ p) (nab : a ≠ b) (hlo : (β p).lo = 0) : ∃ β' H2, Adv F w H β w H2 β' ∧ H2[p]? = some (St1 s T) ∧ H2.length = H.length ∧ ∀ j, j ≠ p → j ≠ a → j ≠ b → H2[j]? = H[j]? := by
  obtain ⟨β1, a1⟩ := adv_toTree hk h0 hlo
  generalize hP : O.tree rf (flatC [[.own a 4 0 s.length s.length, .own b 1 0 T.length T.length]]) = P at a1
  have p1 : (H.set p P)[p]? = some (.tree rf [[.v (.own a 4 0 s.length s.length), .v (.own b 1 0 T.length T.length)]]) := by rw [get_set h0, ← hP]; rfl
  have q1 : (H.set p P)[a]? = some (.mem false [] (s.map Dom.row)) := by rw [getElem?_set_ne' na]; exact ha
  have r1 : (H.set p P)[b]? = some (.tree rb T) := by rw [getElem?_set_ne' nb]; exact hb
  have la : (β1 a).lo = 0 := lo_of_tree (i := 0) (j := 0) a1.hok p1 rfl rfl (by unfold hdOf; rw [q1]; simp)
  have hl1 : (H.set p P).length = H.length := List.length_set
  have o1 : ∀ j, j ≠ p → j ≠ a → j ≠ b → (H.set p P)[j]? = H[j]? := fun j h1 h2 h3 => getElem?_set_ne' h1
  generalize H.set p P = H1 at a1 p1 q1 r1 hl1 o1
  obtain ⟨β2, a2⟩ := adv_toTree a1.hok q1 la
  rw [← domCe_flat] at a2
  have p2 : (H1.set a (.tree [] (s.map domCe)))[p]? = some (.tree rf [[.v (.own a 4 0 s.length s.length), .v (.own b 1 0 T.length T.length)]]) := by rw [getElem?_set_ne' (Ne.symm na)]; exact p1
  have q2 : (H1.set a (.tree [] (s.map domCe)))[a]? = some (.tree [] (s.map domCe)) := get_set q1
  have r2 : (H1.set a (.tree [] (s.map domCe)))[b]? = some (.tree rb T) := by rw [getElem?_set_ne' (Ne.symm nab)]; exact r1
  have hl2 : (H1.set a (.tree [] (s.map domCe))).length = H.length := by rw [List.length_set]; exact hl1
  have o2 : ∀ j, j ≠ p → j ≠ a → j ≠ b → (H1.set a (.tree [] (s.map domCe)))[j]? = H[j]? := fun j h1 h2 h3 => (getElem?_set_ne' h2).trans (o1 j h1 h2 h3)
  generalize H1.set a (.tree [] (s.map domCe)) = H2 at a2 p2 q2 r2 hl2 o2
  obtain ⟨β3, a3⟩ := adv_pack (i := 0) (j := 0) a2.hok p2 q2 (Ne.symm na) rfl rfl (by simp)
  generalize hP3 : O.tree (rf ++ []) _ = P3 at a3
  have p3 : ((H2.set a O.dead).set p P3)[p]? = some (.tree (rf ++ []) [[.n 4 (s.map domCe), .v (.own b 1 0 T.length T.length)]]) := by rw [get_set (x := _) (by rw [getElem?_set_ne' (Ne.symm na)]; exact p2), ← hP3]; rfl
  have r3 : ((H2.set a O.dead).set p P3)[b]? = some (.tree rb T) := by rw [getElem?_set_ne' nb, getElem?_set_ne' (Ne.symm nab)]; exact r2
  have hl3 : ((H2.set a O.dead).set p P3).length = H.length := by rw [List.length_set, List.length_set]; exact hl2
  have o3 : ∀ j, j ≠ p → j ≠ a → j ≠ b → ((H2.set a O.dead).set p P3)[j]? = H[j]? := fun j h1 h2 h3 => (getElem?_set_ne' h1).trans ((getElem?_set_ne' h2).trans (o2 j h1 h2 h3))
  generalize (H2.set a O.dead).set p P3 = H3 at a3 p3 r3 hl3 o3
  obtain ⟨β4, a4⟩ := adv_pack (i := 0) (j := 1) a3.hok p3 r3 (Ne.symm nb) rfl rfl rfl
  generalize hP4 : O.tree (rf ++ [] ++ rb) _ = P4 at a4
  have p4 : ((H3.set b O.dead).set p P4)[p]? = some (.tree (rf ++ [] ++ rb) [[.n 4 (s.map domCe), .n 1 T]]) := by rw [get_set (x := _) (by rw [getElem?_set_ne' (Ne.symm nb)]; exact p3), ← hP4]; rfl
  have hl4 : ((H3.set b O.dead).set p P4).length = H.length := by rw [List.length_set, List.length_set]; exact hl3
  have o4 : ∀ j, j ≠ p → j ≠ a → j ≠ b → ((H3.set b O.dead).set p P4)[j]? = H[j]? := fun j h1 h2 h3 => (getElem?_set_ne' h1).trans ((getElem?_set_ne' h3).trans (o3 j h1 h2 h3))
  generalize (H3.set b O.dead).set p P4 = H4 at a4 p4 hl4 o4
  obtain ⟨β5, a5⟩ := adv_refsT (refs' := []) a4.hok p4 (by simp [Ce.idsR, Ce.idsL, Ce.ids, domCe_ids, hT])
  exact ⟨β5, _, a1.trans (a2.trans (a3.trans (a4.trans a5))), get_set p4, by rw [List.length_set]; exact hl4, fun j h1 h2 h3 => (getElem?_set_ne' h1).trans (o4 j h1 h2 h3)⟩

/-- A store that lies open, its marks too, as one object. -/
theorem close_gen {w : World} {β : Nat → Hd} {F : Nat → Prop} {H : Heap} {vs : Array Value} {xs : List V} {q : Nat} {s : List Dom} {ms : List (List Dom)} {rf rb : List Nat} {p a b : Nat} {K : List Kid} (hk : HOK w.heap H β F)
    (hr : RVs (cx w.heap H β F) vs xs) (hq : xs[q]? = some (.ptr p 1 0 0))
    (h0 : H[p]? = some (.mem false rf [[.own a 4 0 s.length s.length, .own b 1 0 ms.length ms.length]])) (ha : H[a]? = some (.mem false [] (s.map Dom.row)))
    (hb : H[b]? = some (.mem false rb (K.map fun c => [.own c.id c.es 0 c.L.length c.L.length]))) (hK : K.map Kid.L = ms.map fun L => L.map domCe) (hes : ∀ c ∈ K, c.es = 4) (hc : ∀ c ∈ K, H[c.id]? = some (.tree c.refs c.L))
    (hnd : (K.map Kid.id).Nodup) (kp : p ∉ K.map Kid.id) (ka : a ∉ K.map Kid.id) (kb : b ∉ K.map Kid.id)
    (na : a ≠ p) (nb : b ≠ p) (nab : a ≠ b) : ∃ β' H2, Adv F w H β w H2 β' ∧ H2[p]? = some (St1 s (mT ms)) ∧ H2.length = H.length ∧ ∀ j, j ≠ p → j ≠ a → j ≠ b → j ∉ K.map Kid.id → H2[j]? = H[j]? := by
  have hKl : K.length = ms.length := by have := congrArg List.length hK; simpa using this
  have lp := lo_arg hr hq (by unfold hdOf; rw [h0]; rfl)
  have lb : (β b).lo = 0 := lo_of_cell (p := p) (c := b) (i := 0) (j := 1) hk h0 lp rfl rfl (by unfold hdOf; rw [hb]; simp [hKl])
  obtain ⟨β1, a1⟩ := adv_toTree hk hb lb
  have hfl : flatC (K.map fun c => [.own c.id c.es 0 c.L.length c.L.length]) = K.map Kid.own := by simp [flatC, Kid.own, Function.comp_def]
  rw [hfl] at a1
  obtain ⟨β2, H2, rf2, a2, b1, b2, b3⟩ := adv_packAll (id := b) K [] _ β1 rb a1.hok (get_set hb) (fun c hcm => by
    have hne : c.id ≠ b := fun e => kb (e ▸ List.mem_map_of_mem hcm)
    exact ⟨by rw [getElem?_set_ne' hne]; exact hc c hcm, hne⟩) hnd
  have hT : ([] ++ K).map Kid.nest = mT ms := by
    have h1 : K.map Kid.nest = (K.map Kid.L).map fun L => [Ce.n 4 L] := by
      rw [List.map_map]
      exact List.map_congr_left fun c hcm => by simp [Kid.nest, hes c hcm]
    rw [List.nil_append, h1, hK]; simp [mT, Function.comp_def]
  rw [hT] at b1
  have hTl : (mT ms).length = ms.length := by simp [mT]
  obtain ⟨β3, H3, a3, c1, c2, c3⟩ := close_storeO (p := p) (a := a) (b := b) (s := s) (T := mT ms) (rf := rf) a2.hok (by rw [b3 p (Ne.symm nb) kp, getElem?_set_ne' (Ne.symm nb), hTl]; exact h0) (by rw [b3 a nab ka, getElem?_set_ne' nab]; exact ha) b1 (mT_ids ms) na nb nab
    (lo_arg (hr.mono (a1.trans a2).le) hq (by unfold hdOf; rw [b3 p (Ne.symm nb) kp, getElem?_set_ne' (Ne.symm nb), h0]; rfl))
  refine ⟨β3, H3, a1.trans (a2.trans a3), c1, by rw [c2, b2, List.length_set], fun j h1 h2 h3 h4 => ?_⟩
  rw [c3 j h1 h2 h3, b3 j h3 h4, getElem?_set_ne' h3]
end Go.Abs.G

/- Many objects at once. -/
namespace Go.Abs
set_option linter.unusedVariables false
section
variable {w : World} {β : Nat → Hd} {F : Nat → Prop} {H : Heap}
theorem adv_toTreeE {id : Nat} {refs : List Nat} {rows : List (List V)} (hk : HOK w.heap H β F) (hid : H[id]? = some (.mem false refs rows)) (hlo : (β id).lo = 0) : Adv F w H β w (H.set id (.tree refs (flatC rows))) (upd β id ((β id).ws noSub)) := by
  refine turn_at (S := noSub) hk hid (by simp) (fun b hb => ?_) (fun g' hg => ?_) fun hle => ?_
  · unfold ownsB at hb ⊢
    rw [get_set hid, upd_same] at hb
    rw [hid]
    obtain ⟨h1, h2 | h2⟩ := hb
    · exact ⟨h1, h2⟩
    · exact h2.elim
  · unfold hdOf at hg ⊢
    rw [get_set hid, upd_same] at hg
    rw [hid]
    simp only [flatC_length] at hg ⊢
    exact hg
  · rcases hk.ro id _ hid with hr | ⟨q1, q2, q3, q4, q5, cs, E, fr, q6, q7, q8, q9⟩
    · exact .inl ⟨hr.1, by rw [hr.2.1]; rfl, hr.2.2⟩
    · obtain rfl := q7 rfl
      refine .inr ⟨q1, hlo, fun h => h, ?_, fun cs' E' fr' e => ?_⟩
      rotate_left
      · have e2 : w.heap[(β id).b]? = some (.cells cs' E' fr') := e
        have q6' : w.heap[(β id).b]? = some (.cells cs E (0, 0)) := q6
        rw [q6'] at e2
        cases e2
        exact q8
      have key : ∀ (i : Nat) (row : List Ce), (flatC rows)[i]? = some row → ∀ (j : Nat) (x : Ce), row[j]? = some x → ∃ y v, x = .v y ∧ cs[(β id).o + i * (β id).es + j]? = some v ∧ v.oneCell' = true ∧ RV ((cx w.heap H β F).only refs) v y := by
        intro i row hi j x hj
        obtain ⟨r, hr, rfl⟩ := flatC_get hi
        rw [List.getElem?_map, Option.map_eq_some_iff] at hj
        obtain ⟨y, hj, rfl⟩ := hj
        obtain ⟨v, e1, e2, e3⟩ := q9 i r hr (by omega) j y hj
        rw [hlo, Nat.sub_zero] at e1
        exact ⟨y, v, rfl, e1, e2, e3⟩
      have := TR.n (c := cx w.heap (H.set id (.tree refs (flatC rows))) (upd β id ((β id).ws noSub)) F) (refs := refs) (S := fun b => (β id).b = b ∨ noSub b) (ad := ⟨(β id).b, (β id).o, none⟩) (b := (β id).b) (o := (β id).o) (cap := (β id).cap) (es := (β id).es) (rows := flatC rows)
        (fun _ => rfl) cs E (fun i j => (cs[(β id).o + i * (β id).es + j]?).getD undef) (fun _ _ => noSub) q6 (by rw [flatC_length]; omega) q8 (fun i row hi => by
          obtain ⟨r, hr, rfl⟩ := flatC_get hi
          rw [List.length_map]; exact q4 i r hr) (fun i row hi j x hj => by
          obtain ⟨y, v, _, e1, _⟩ := key i row hi j x hj
          rw [e1]; rfl) (fun i row hi j x hj => by
          obtain ⟨y, v, rfl, e1, e2, e3⟩ := key i row hi j x hj
          rw [e1]; exact .v e2 (e3.mono (hle.only _))) (fun i j k h => h.elim) (fun k => ⟨fun h => h.elim (fun e => .inl e.symm) fun e => e.elim, fun h => h.elim (fun e => .inl e.symm) fun ⟨_, _, e⟩ => e.elim⟩) (fun i j h => h) fun i j i' j' k h => h.elim
      exact this

end
theorem upd_ne' {β : Nat → Hd} {i j : Nat} {h : Hd} (hne : j ≠ i) : upd β i h j = β j := by unfold upd; rw [if_neg hne]

/-- Rows of slices that own nothing further, each told as an object of trees. -/
theorem adv_treeAll {w : World} {F : Nat → Prop} : ∀ (todo : List (Nat × List (List V))) (H : Heap) (β : Nat → Hd), HOK w.heap H β F → (∀ c ∈ todo, H[c.1]? = some (.mem false [] c.2) ∧ (β c.1).lo = 0) → (todo.map (·.1)).Nodup →
    ∃ β' H', Adv F w H β w H' β' ∧ (∀ c ∈ todo, H'[c.1]? = some (.tree [] (flatC c.2))) ∧ H'.length = H.length ∧ ∀ j, j ∉ todo.map (·.1) → H'[j]? = H[j]?
  | [], H, β, hk, _, _ => ⟨β, H, ⟨hk, .refl _, .refl _ _⟩, by simp, rfl, fun _ _ => rfl⟩
  | c :: l, H, β, hk, hc, hnd => by
    obtain ⟨h1, h2⟩ := hc c (by simp)
    have a1 := adv_toTreeE hk h1 h2
    obtain ⟨n1, n2⟩ : c.1 ∉ l.map (·.1) ∧ (l.map (·.1)).Nodup := by simpa using List.nodup_cons.1 hnd
    obtain ⟨β', H', a2, k1, k2, k3⟩ := adv_treeAll l _ _ a1.hok (fun d hd => by
      have hne : d.1 ≠ c.1 := fun e => n1 (e ▸ List.mem_map_of_mem hd)
      obtain ⟨g1, g2⟩ := hc d (by simp [hd])
      exact ⟨by rw [getElem?_set_ne' hne]; exact g1, by rw [upd_ne' hne]; exact g2⟩) n2
    refine ⟨β', H', a1.trans a2, fun d hd => ?_, by rw [k2, List.length_set], fun j hj => ?_⟩
    · rcases List.mem_cons.1 hd with rfl | hd
      · rw [k3 _ n1]; exact get_set h1
      · exact k1 d hd
    · rw [List.map_cons, List.mem_cons, not_or] at hj
      rw [k3 j hj.2, getElem?_set_ne' hj.1]
end Go.Abs

namespace Go.Abs.G
open Go.Proofs
set_option linter.unusedVariables false
set_option linter.unusedSimpArgs false

theorem cR_kids (b : Nat) (ms : List (List Dom)) : cR b ms ms.length = ((ms.zipIdx.map fun p => (⟨b + 3 * p.2, 4, [], p.1.map domCe⟩ : Kid)).map fun c => [V.own c.id c.es 0 c.L.length c.L.length]) := by
  simp [cR, Function.comp_def]

theorem zipIdx_ids (b : Nat) : ∀ (ms : List (List Dom)) (k : Nat), ((ms.zipIdx k).map fun p => b + 3 * p.2).Nodup
  | [], k => by simp
  | L :: ms, k => by
    rw [List.zipIdx_cons, List.map_cons, List.nodup_cons]
    refine ⟨fun h => ?_, zipIdx_ids b ms (k + 1)⟩
    obtain ⟨p, hp, he⟩ := List.mem_map.1 h
    have := List.le_snd_of_mem_zipIdx hp
    simp only at he
    omega

theorem kids_mapL (es : Nat) : ∀ (l : List (List (List Ce))) (n : Nat), (kids es n l).map Kid.L = l
  | [], n => rfl
  | L :: l, n => by simp [kids, kids_mapL es l (n + 1)]
theorem kidsOf_L (ms : List (List Dom)) : (kidsOf ms).map Kid.L = ms.map fun L => L.map domCe := kids_mapL 4 _ 3
theorem zipIdx_fst {α β : Type} (f : α → β) : ∀ (l : List α) (k : Nat), (l.zipIdx k).map (fun p => f p.1) = l.map f
  | [], k => rfl
  | a :: l, k => by simp [List.zipIdx_cons, zipIdx_fst f l (k + 1)]

theorem copy_packed {s : List Dom} {ms : List (List Dom)} (hs : s.length ≤ 64) (hm : ms.length ≤ 1000000) (hL : ∀ L ∈ ms, L.length ≤ 64) :
    DC Try.prog dom_Store_Copy.id [.ptr 0 1 0 0] [St1 s (mT ms)] (fun r H => r = .ptr 1 1 0 0 ∧ H = [St1 s (mT ms), St1 s (mT ms)]) := by
  have hcl : ∀ f, O.ren f (St1 s (mT ms)) = St1 s (mT ms) := fun f => by
    simp [St1, O.ren, Ce.renR, Ce.renL, Ce.ren, domCe_ren, mT_ren]
  refine DC.picks (Q := fun r H => r = .ptr (3 + ms.length) 1 0 0 ∧ H[0]? = some (St1 s (mT ms)) ∧ H[3 + ms.length]? = some (St1 s (mT ms))) ?_ ?_
  rotate_left
  · rintro r H ⟨rfl, h0, h1⟩
    refine ⟨[0, 3 + ms.length], ⟨by simp; omega, fun i hi => ?_, fun i hi => ?_, fun i hi k hk => ?_⟩, by simp, by simp, ?_, ?_⟩
    · simp only [List.mem_cons, List.not_mem_nil, or_false] at hi
      rcases hi with rfl | rfl
      · exact lt_of_get h0
      · exact lt_of_get h1
    · simp only [List.mem_cons, List.not_mem_nil, or_false] at hi
      rcases hi with rfl | rfl
      · rw [getD_some h0]; simp [St1]
      · rw [getD_some h1]; simp [St1]
    · simp only [List.mem_cons, List.not_mem_nil, or_false] at hi
      rcases hi with rfl | rfl
      · rw [getD_some h0] at hk; simp [St1, O.refs] at hk
      · rw [getD_some h1] at hk; simp [St1, O.refs] at hk
    · simp only [V.ren, idx, List.idxOf_cons]
      have : (0 == 3 + ms.length) = false := by simp; omega
      simp [this]
    · simp only [sub, List.map_cons, List.map_nil, getD_some h0, getD_some h1, hcl]
  refine DC.pre ((open_store (mT_ids ms)).trans step_open) (DC.post' (copy_open hs hm hL) ?_)
  rintro x H1 ⟨rfl, E, hE, rfl⟩ w β F vs hk hr
  have hol : (objsOf ms).length = ms.length := by simp [objsOf]
  obtain ⟨n, hn⟩ : ∃ n, n = 3 + (objsOf ms).length := ⟨_, rfl⟩
  have hn' : 3 + ms.length = n := by omega
  rw [hn'] at hE hr ⊢
  have z1 := fun L c => Zn (s := s) (rf := List.range' 3 ms.length) (R := rowsOf' ms) hn L c
  have z0 := fun L => Zn0 (s := s) (rf := List.range' 3 ms.length) (R := rowsOf' ms) hn L
  generalize hH : Z s (List.range' 3 ms.length) (rowsOf' ms) ++ (objsOf ms ++ E) = H at hk hr ⊢
  have g0 : H[0]? = some (.mem false [1, 2] [[.own 1 4 0 s.length s.length, .own 2 1 0 ms.length ms.length]]) := by rw [← hH, Z_0, rowsOf_len]
  have g1 : H[1]? = some (.mem false [] (s.map Dom.row)) := by rw [← hH, Z_1]
  have g2 : H[2]? = some (.mem false (List.range' 3 ms.length) (rowsOf' ms)) := by rw [← hH, Z_2]
  have gk : ∀ i L, ms[i]? = some L → H[3 + i]? = some (.tree [] (L.map domCe)) := fun i L h => by
    have hi := lt_of_get h
    rw [← hH, List.getElem?_append_right (by simp), List.getElem?_append_left (by simp; omega)]
    have : 3 + i - (Z s (List.range' 3 ms.length) (rowsOf' ms)).length = i := by simp
    rw [this]; exact objsOf_get h
  have ge : ∀ c, H[n + c]? = E[c]? := fun c => by rw [← hH]; exact z1 E c
  -- the original, when the copy is told
  have orig : ∀ {β : Nat → Hd} {H2 : Heap}, HOK w.heap H2 β F → RVs (cx w.heap H2 β F) vs [.ptr n 1 0 0, .ptr 0 1 0 0] → (∀ j, j < n → H2[j]? = H[j]?) →
      ∃ β' H3, Adv F w H2 β w H3 β' ∧ H3[0]? = some (St1 s (mT ms)) ∧ ∀ j, n ≤ j → H3[j]? = H2[j]? := fun {β H2} hk hr hj => by
    have hids : (kidsOf ms).map Kid.id = List.range' 3 ms.length := by unfold kidsOf; rw [kids_ids, List.length_map]
    obtain ⟨β', H3, a, b1, b2, b3⟩ := close_gen (q := 1) (p := 0) (a := 1) (b := 2) (s := s) (ms := ms) (K := kidsOf ms) hk hr rfl ((hj 0 (by omega)).trans g0) ((hj 1 (by omega)).trans g1) ((hj 2 (by omega)).trans g2)
      (kidsOf_L ms) (fun c hc => (kids_mem 4 3 _ c hc).choose_spec.2.2.2) (fun c hc => by
        obtain ⟨i, h1, h2, h3, h4⟩ := kids_mem 4 3 _ c hc
        rw [List.getElem?_map, Option.map_eq_some_iff] at h1
        obtain ⟨L, h1, h5⟩ := h1
        have := lt_of_get h1
        rw [h2, h3, ← h5, hj _ (by omega)]
        exact gk i L h1) (by rw [hids]; exact List.nodup_range') (by rw [hids, List.mem_range'_1]; omega) (by rw [hids, List.mem_range'_1]; omega) (by rw [hids, List.mem_range'_1]; omega) (by simp) (by simp) (by simp)
    exact ⟨β', H3, a, b1, fun j h => b3 j (by omega) (by omega) (by omega) (by rw [hids, List.mem_range'_1]; omega)⟩
  have hx : (Z s (List.range' 3 ms.length) (rowsOf' ms)).length = 3 := rfl
  -- the copy
  have copy : ∃ β' H2, Adv F w H β w H2 β' ∧ H2[n]? = some (St1 s (mT ms)) ∧ ∀ j, j < n → H2[j]? = H[j]? := by
    cases hE with
    | zero hi =>
      obtain rfl : ms = [] := List.length_eq_zero_iff.1 hi
      have e0 : H[n]? = some (.mem false [n + 1] [[.own (n + 1) 4 0 s.length s.length, nilS]]) := ge 0
      have e1 : H[n + 1]? = some (.mem false [] (s.map Dom.row)) := ge 1
      have lp := lo_arg (i := 0) hr rfl (by unfold hdOf; rw [e0]; rfl)
      obtain ⟨β1, a1⟩ := adv_toTree hk e0 lp
      have f0 : (H.set n (.tree [n + 1] (flatC [[.own (n + 1) 4 0 s.length s.length, nilS]])))[n]? = some (.tree [n + 1] [[.v (.own (n + 1) 4 0 s.length s.length), .v nilS]]) := by rw [get_set e0]; rfl
      have f1 : (H.set n (.tree [n + 1] (flatC [[.own (n + 1) 4 0 s.length s.length, nilS]])))[n + 1]? = some (.mem false [] (s.map Dom.row)) := by rw [getElem?_set_ne' (by omega)]; exact e1
      have fo : ∀ j, j < n → (H.set n (.tree [n + 1] (flatC [[.own (n + 1) 4 0 s.length s.length, nilS]])))[j]? = H[j]? := fun j h => getElem?_set_ne' (by omega)
      generalize H.set n (.tree [n + 1] (flatC [[.own (n + 1) 4 0 s.length s.length, nilS]])) = H1 at a1 f0 f1 fo
      have la : (β1 (n + 1)).lo = 0 := lo_of_tree (i := 0) (j := 0) a1.hok f0 rfl rfl (by unfold hdOf; rw [f1]; simp)
      obtain ⟨β2, a2⟩ := adv_toTree a1.hok f1 la
      rw [← domCe_flat] at a2
      have g0 : (H1.set (n + 1) (.tree [] (s.map domCe)))[n]? = some (.tree [n + 1] [[.v (.own (n + 1) 4 0 s.length s.length), .v nilS]]) := by rw [getElem?_set_ne' (by omega)]; exact f0
      have g1 : (H1.set (n + 1) (.tree [] (s.map domCe)))[n + 1]? = some (.tree [] (s.map domCe)) := get_set f1
      have go : ∀ j, j < n → (H1.set (n + 1) (.tree [] (s.map domCe)))[j]? = H[j]? := fun j h => (getElem?_set_ne' (by omega)).trans (fo j h)
      generalize H1.set (n + 1) (.tree [] (s.map domCe)) = H2 at a2 g0 g1 go
      obtain ⟨β3, a3⟩ := adv_pack (i := 0) (j := 0) a2.hok g0 g1 (by omega) rfl rfl (by simp)
      generalize hP : O.tree ([n + 1] ++ []) _ = P at a3
      have k0 : ((H2.set (n + 1) .dead).set n P)[n]? = some (.tree [n + 1] [[.n 4 (s.map domCe), .v nilS]]) := by rw [get_set (x := _) (by rw [getElem?_set_ne' (by omega)]; exact g0), ← hP]; rfl
      have ko : ∀ j, j < n → ((H2.set (n + 1) .dead).set n P)[j]? = H[j]? := fun j h => (getElem?_set_ne' (by omega)).trans ((getElem?_set_ne' (by omega)).trans (go j h))
      generalize (H2.set (n + 1) .dead).set n P = H3 at a3 k0 ko
      obtain ⟨β4, a4⟩ := adv_nilcell (i := 0) (j := 1) (es := 1) a3.hok k0 rfl rfl
      have l0 := get_set (y := O.tree [n + 1] ([[.n 4 (s.map domCe), .v nilS]].set 0 ([.n 4 (s.map domCe), .v nilS].set 1 (.n 1 [])))) k0
      obtain ⟨β5, a5⟩ := adv_refsT (refs' := []) a4.hok l0 (by simp [Ce.idsR, Ce.idsL, Ce.ids, domCe_ids])
      refine ⟨β5, _, a1.trans (a2.trans (a3.trans (a4.trans a5))), get_set l0, fun j h => ?_⟩
      rw [getElem?_set_ne' (by omega), getElem?_set_ne' (by omega)]
      exact ko j h
    | some hi hl hkk hr1 hr2 =>
      rename_i rf1 rf2 G T
      have e0 : H[n]? = some (.mem false rf1 [[.own (n + 1) 4 0 s.length s.length, .own (n + 3) 1 0 ms.length ms.length]]) := ge 0
      have e1 : H[n + 1]? = some (.mem false [] (s.map Dom.row)) := ge 1
      have e3 : H[n + 3]? = some (.mem false rf2 (cR (n + 4) ms ms.length)) := ge 3
      have e4 : ∀ j L, ms[j]? = some L → H[n + 4 + 3 * j]? = some (.mem false [] (L.map Dom.row)) := fun j L h => by
        have h1 : n + 4 + 3 * j = n + (3 * j + 4) := by omega
        rw [h1, ge]
        exact hkk j L (lt_of_get h) h
      have lp := lo_arg (i := 0) hr rfl (by unfold hdOf; rw [e0]; rfl)
      have lb : (β (n + 3)).lo = 0 := lo_of_cell (p := n) (c := n + 3) (i := 0) (j := 1) hk e0 lp rfl rfl (by unfold hdOf; rw [e3]; simp [cR_len])
      obtain ⟨K, hK⟩ : ∃ K : List Kid, K = ms.zipIdx.map fun p => (⟨n + 4 + 3 * p.2, 4, [], p.1.map domCe⟩ : Kid) := ⟨_, rfl⟩
      have hcK := cR_kids (n + 4) ms
      rw [← hK] at hcK
      obtain ⟨β1, H1, a1, k1, k2, k3⟩ := adv_treeAll (ms.zipIdx.map fun p => (n + 4 + 3 * p.2, p.1.map Dom.row)) H β hk (fun c hc => by
        obtain ⟨p, hp, rfl⟩ := List.mem_map.1 hc
        have hp' := List.mem_zipIdx_iff_getElem?.1 hp
        refine ⟨e4 _ _ hp', ?_⟩
        refine lo_of_cell (p := n + 3) (i := p.2) (j := 0) (k := p.1.length) (es := 4) (row := [.own (n + 4 + 3 * p.2) 4 0 p.1.length p.1.length]) hk e3 lb ?_ rfl (by unfold hdOf; rw [e4 _ _ hp']; simp)
        simp [cR, hp']) (by
          rw [List.map_map]; exact zipIdx_ids (n + 4) ms 0)
      have hid2 : (ms.zipIdx.map fun p => (n + 4 + 3 * p.2, p.1.map Dom.row)).map (·.1) = K.map Kid.id := by rw [hK]; simp [Function.comp_def]
      rw [hid2] at k3
      have kin : ∀ j, j < n + 4 → j ∉ K.map Kid.id := fun j hj h => by
        rw [hK, List.map_map] at h
        obtain ⟨p, hp, rfl⟩ := List.mem_map.1 h
        simp at hj
        omega
      obtain ⟨β2, H2, a2, c1, c2, c3⟩ := close_gen (q := 0) (p := n) (a := n + 1) (b := n + 3) (s := s) (ms := ms) (K := K) a1.hok (hr.mono a1.le) rfl ((k3 _ (kin _ (by omega))).trans e0) ((k3 _ (kin _ (by omega))).trans e1) ((k3 _ (kin _ (by omega))).trans (hcK ▸ e3))
        (by rw [hK, List.map_map]; exact zipIdx_fst (fun L => L.map domCe) ms 0) (fun c hc => by rw [hK] at hc; obtain ⟨p, _, rfl⟩ := List.mem_map.1 hc; rfl) (fun c hc => by
          rw [hK] at hc
          obtain ⟨p, hp, rfl⟩ := List.mem_map.1 hc
          have := k1 (n + 4 + 3 * p.2, p.1.map Dom.row) (List.mem_map_of_mem (f := fun p => (n + 4 + 3 * p.2, p.1.map Dom.row)) hp)
          rw [← domCe_flat] at this
          exact this) (by rw [← hid2, List.map_map]; exact zipIdx_ids (n + 4) ms 0) (kin _ (by omega)) (kin _ (by omega)) (kin _ (by omega)) (by omega) (by omega) (by omega)
      exact ⟨β2, H2, a1.trans a2, c1, fun j hj => (c3 j (by omega) (by omega) (by omega) (kin _ (by omega))).trans (k3 j (kin _ (by omega)))⟩
  obtain ⟨β1, H1, a1, b1, b2⟩ := copy
  obtain ⟨β2, H2, a2, d1, d2⟩ := orig a1.hok (hr.mono a1.le) b2
  exact ⟨β2, H2, a1.trans a2, rfl, d1, by rw [d2 n (Nat.le_refl _)]; exact b1⟩
end Go.Abs.G

namespace Go.Abs.G
open Go.Proofs
set_option linter.unusedVariables false
set_option linter.unusedSimpArgs false
attribute [local simp] I.vc sub merge place

def sumW (g : Int → Int) (l : List Term) : Int := l.foldl (fun n t => IntKind.i64.wrap (n + IntKind.i64.wrap (t.c * g t.x))) 0

theorem sumW_succ (g : Int → Int) (l : List Term) {i : Nat} (h : i < l.length) : sumW g (l.take (i + 1)) = IntKind.i64.wrap (sumW g (l.take i) + IntKind.i64.wrap (l[i].c * g l[i].x)) := by
  unfold sumW
  rw [List.take_succ_eq_append_getElem h, List.foldl_append]; rfl

theorem sum_spec0 {f : FuncId} {cap : List V} {g : Int → Int} {l : List Term} (hok : okFunc Try.prog f = true) (hids : V.idsL cap = []) (hg : ∀ t ∈ l, DP Try.prog f (V.i t.x :: cap) fun r => r = V.i (g t.x)) (hl : l.length ≤ maxLen) :
    Pf Try.prog model_sum.id [vTerms l, .fn (.func f) [] cap] (V.i (sumW g l)) := by
  have hm : (maxLen : Int) ≤ 9223372036854775807 := by decide
  refine DC.of model_sum.ok (by simp) ?_
  simp [model_sum.ir, model_sum.rs, vTerms]
  refine WI.loop 0 (by simp) (fun s => ∃ i, i ≤ l.length ∧ gt s.sl 1 = .fn (.func f) [] cap ∧ gt s.sl 5 = V.i (sumW g (l.take i)) ∧ gt s.sl 8 = vTerms l ∧ gt s.sl 9 = V.i l.length ∧ gt s.sl 10 = V.i i ∧ s.hp = []) (fun s => (l.length - (gt s.sl 10).num).toNat) ?_ ?_
  · exact ⟨0, by simp [vTerms, sumW]⟩
  · rintro ⟨sl, hp, bs⟩ ⟨i, hi, h1, h5, h8, h9, h10, rfl⟩
    by_cases hil : i < l.length
    · simp [model_sum.b0, h1, h5, h8, h9, h10, vTerms, Term.cells, hil, hok, hids]
      refine DP.mono (hg _ (List.getElem_mem hil)) fun r hr => ?_
      subst hr
      have hw : IntKind.i64.wrap ((i : Int) + 1) = ((i + 1 : Nat) : Int) := by rw [wrap64] <;> omega
      simp [hids, hw]
      exact ⟨⟨i + 1, hil, (sumW_succ g l hil).symm, rfl⟩, by omega⟩
    · obtain rfl : i = l.length := by omega
      simp [model_sum.b0, h1, h5, h8, h9, h10, vTerms, model_sum.rs]

theorem sumW_eq {g : Int → Int} : ∀ (l : List Term) (a : Int), (∀ t ∈ l, -1000000000000000 ≤ t.c * g t.x ∧ t.c * g t.x ≤ 1000000000000000) → -4000000000000000000 + 1000000000000000 * l.length ≤ a → a ≤ 4000000000000000000 - 1000000000000000 * l.length →
    l.foldl (fun n t => IntKind.i64.wrap (n + IntKind.i64.wrap (t.c * g t.x))) a = a + sumI g l := by
  intro l
  induction l with
  | nil => intro a _ _ _; simp [sumI]
  | cons t l ih =>
    intro a h h1 h2
    have h0 := h t (by simp)
    rw [List.length_cons] at h1 h2
    rw [List.foldl_cons, wrap64 (n := t.c * g t.x) (by omega) (by omega), wrap64 (n := a + t.c * g t.x) (by omega) (by omega), ih _ (fun t ht => h t (by simp [ht])) (by omega) (by omega)]
    simp [sumI]; omega

/-- A sum of few terms whose parts aren't great. -/
theorem sum_spec {f : FuncId} {cap : List V} {g : Int → Int} {l : List Term} (hok : okFunc Try.prog f = true) (hids : V.idsL cap = []) (hg : ∀ t ∈ l, DP Try.prog f (V.i t.x :: cap) fun r => r = V.i (g t.x)) (hl : l.length ≤ 64)
    (hb : ∀ t ∈ l, (-1000000 ≤ t.c ∧ t.c ≤ 1000000) ∧ (-1000000000 ≤ g t.x ∧ g t.x ≤ 1000000000)) :
    Pf Try.prog model_sum.id [vTerms l, .fn (.func f) [] cap] (V.i (sumI g l)) := by
  have hm : (64 : Nat) ≤ maxLen := by decide
  have e := sumW_eq (g := g) l 0 (fun t ht => mul_bound (hb t ht).1 (hb t ht).2) (by omega) (by omega)
  rw [Int.zero_add] at e
  have := sum_spec0 hok hids hg (by omega : l.length ≤ maxLen)
  unfold sumW at this
  rw [e] at this
  exact this

theorem great_at {l : List Int} (h : greatB l = false) {x : Int} (h0 : 0 ≤ x) (h1 : x < l.length) : -1000000000 ≤ atI l x ∧ atI l x ≤ 1000000000 := by
  unfold greatB at h
  rw [List.any_eq_false] at h
  have hi : x.toNat < l.length := by omega
  have hx := h l[x.toNat] (List.getElem_mem hi)
  have e : atI l x = l[x.toNat] := by simp [atI, List.getD, List.getElem?_eq_getElem hi]
  rw [e]
  simp [withinB] at hx
  omega

end Go.Abs.G


namespace Go.Abs.G
open Go.Proofs
set_option linter.unusedVariables false
set_option linter.unusedSimpArgs false
attribute [local simp] I.vc sub merge place

theorem endsI_bound {m : Model} (h : Right m) (least : Bool) : ∀ (l : List Term), (∀ t ∈ l, TermOk m.vars.length t) → -(1000000000000000 * l.length : Int) ≤ endsI m least l ∧ endsI m least l ≤ 1000000000000000 * l.length := by
  intro l
  induction l with
  | nil => intro _; simp [endsI]
  | cons t l ih =>
    intro ht
    have h1 := ih fun t h => ht t (by simp [h])
    have h2 := ht t (by simp)
    have h3 := (h.varAt h2.x.1 h2.x.2).2
    have h4 := mul_bound ⟨h2.c.1, h2.c.2.1⟩ h3.lo
    have h5 := mul_bound ⟨h2.c.1, h2.c.2.1⟩ h3.hi
    have h6 : endsI m least (t :: l) = endOf m least t + endsI m least l := by simp [endsI]
    rw [h6, List.length_cons]
    have h7 : -1000000000000000 ≤ endOf m least t ∧ endOf m least t ≤ 1000000000000000 := by
      unfold endOf; split <;> assumption
    omega

theorem endsI_succ (m : Model) (least : Bool) {l : List Term} {i : Nat} (h : i < l.length) : endsI m least (l.take (i + 1)) = endsI m least (l.take i) + endOf m least l[i] := by
  unfold endsI
  rw [List.take_succ_eq_append_getElem h, List.map_append, List.sum_append]; simp

end Go.Abs.G


/- Holds, Solution: what they tell. -/
namespace Go.Abs
attribute [local simp] I.vc sub merge place

def opB (op n k : Int) : Bool := if op = 1 then decide (n ≤ k) else if op = 3 then decide (k ≤ n) else decide (n = k)
def maxI : List Int → Int
  | [] => 0
  | [x] => x
  | x :: l => max x (maxI l)
def minI : List Int → Int
  | [] => 0
  | [x] => x
  | x :: l => min x (minI l)
def holdsK (c : Con) (g : Int → Int) : Bool :=
  if c.kind = 1 then opB c.op (sumI g c.terms) c.k
  else if c.kind = 2 then decide (g c.x ≠ g c.y + c.k)
  else if c.kind = 3 then decide ((c.xs.map g).Nodup)
  else if c.kind = 4 then decide (0 ≤ g c.x) && decide (g c.x < c.table.length) && decide (g c.y = atI c.table (g c.x))
  else if c.kind = 5 then decide (g c.y = maxI (c.xs.map g))
  else if c.kind = 6 then decide (g c.y = minI (c.xs.map g))
  else if c.kind = 7 then (if sumI g c.terms ≤ c.k then decide (g c.x = 1) else decide (g c.x = 0))
  else if c.kind = 8 then c.rows.any fun r => decide (r = c.xs.map g)
  else opB c.op ((c.xs.filter fun x => decide (g x = c.v)).length) c.k
def holdsB (c : Con) (values : List Int) : Bool :=
  if decide (conB c values.length ≠ 0) || greatB values then false else holdsK c (atI values)
def inBounds (m : Model) (values : List Int) : Bool := (m.vars.zip values).all fun p => decide (p.1.lo ≤ p.2) && decide (p.2 ≤ p.1.hi)
def solB (m : Model) (values : List Int) : Bool :=
  if !rightB m || decide (values.length ≠ m.vars.length) then false else inBounds m values && m.cons.all fun c => holdsB c values

structure ConOk (c : Con) (vars : Nat) (n : Needs) : Prop where
  terms : ∀ t ∈ c.terms, TermOk vars t
  termsN : c.terms.length ≤ 64
  xs : ∀ x ∈ c.xs, 0 ≤ x ∧ x < vars
  xsN : c.xs.length ≤ 64
  xs1 : n.xs = true → 1 ≤ c.xs.length
  x : n.x = true → 0 ≤ c.x ∧ c.x < vars
  y : n.y = true → 0 ≤ c.y ∧ c.y < vars
  k : -1000000000 ≤ c.k ∧ c.k ≤ 1000000000
  rowsN : c.rows.length ≤ 64
  tableN : c.table.length ≤ 64

theorem ConOk.of {c : Con} {vars : Nat} {n : Needs} (h : conN c vars n = 0) : ConOk c vars n := by
  unfold conN at h
  split at h
  · cases h
  · split at h
    · cases h
    · next h1 =>
      split at h
      · cases h
      · next h2 =>
        split at h
        · cases h
        · next h3 =>
          split at h
          · cases h
          · next h4 =>
            split at h
            · cases h
            · next h5 =>
              simp only [Bool.or_eq_true, not_or, Bool.not_eq_true', Bool.and_eq_true, not_and, decide_eq_true_eq, Bool.not_eq_false] at h2 h3 h5
              obtain ⟨⟨⟨t1, t2⟩, t3⟩, t4⟩ := h2
              obtain ⟨⟨⟨v1, v2⟩, v3⟩, v4⟩ := h3
              obtain ⟨⟨⟨k1, k2⟩, k3⟩, k4⟩ := h5
              have hf : ∀ {a : Bool} {k : Nat}, fieldB c n = false → (!a && decide (0 < k)) = false → countsB a k = true → k ≤ 64 := by
                intro a k _ h h'
                unfold countsB at h'
                cases a <;> simp at h h' <;> omega
              have hfield : fieldB c n = false := by simpa using h1
              have hfl := hfield
              unfold fieldB at hfl
              simp only [Bool.or_eq_false_iff] at hfl
              obtain ⟨⟨⟨⟨_, f1⟩, f2⟩, f3⟩, f4⟩ := hfl
              refine ⟨TermOk.of (by simpa using v1) (by simpa using h4), hf hfield f1 t1, fun x hx => ?_, hf hfield f2 t2, fun hn => ?_, fun hn => ?_, fun hn => ?_, ?_, ?_, hf hfield f3 t3⟩
              · have := (List.any_eq_false.1 (by simpa using v4 : c.xs.any (noB vars) = false)) x hx
                simp [noB] at this
                omega
              · unfold countsB at t2
                rw [hn] at t2
                simp at t2
                omega
              · have := v2 hn
                simp [noB] at this
                omega
              · have := v3 hn
                simp [noB] at this
                omega
              · simp [withinB] at k1
                omega
              · cases hn : n.rows
                · rw [hn] at f4
                  simp at f4
                  simp [f4]
                · have h5' := t4
                  simp [wideB, hn, countsB] at h5'
                  omega
end Go.Abs

namespace Go.Abs.G
open Go.Proofs
set_option linter.unusedVariables false
set_option linter.unusedSimpArgs false
attribute [local simp] I.vc sub merge place

structure AtOk (f : FuncId) (cap : List V) (g : Int → Int) (vars : Nat) : Prop where
  ok : okFunc Try.prog f = true
  ids : V.idsL cap = []
  run : ∀ x : Int, 0 ≤ x → x < vars → DP Try.prog f (V.i x :: cap) fun r => r = V.i (g x)
  bound : ∀ x : Int, 0 ≤ x → x < vars → -1000000000 ≤ g x ∧ g x ≤ 1000000000

theorem is_spec (op n k : Int) : Pf Try.prog model_is.id [V.i op, V.i n, V.i k] (.bool (opB op n k)) := by
  refine DC.of model_is.ok (by simp) ?_
  by_cases h1 : op = 1
  · subst h1; simp [model_is.ir, model_is.rs, opB]
  · by_cases h3 : op = 3
    · subst h3; simp [model_is.ir, model_is.rs, opB]
    · simp [model_is.ir, model_is.rs, opB, h1, h3]
      rfl

section
variable {f : FuncId} {cap : List V} {g : Int → Int} {vars : Nat} (A : AtOk f cap g vars)
include A

theorem sumAt_spec {l : List Term} (hl : l.length ≤ 64) (ht : ∀ t ∈ l, TermOk vars t) : Pf Try.prog model_sum.id [vTerms l, .fn (.func f) [] cap] (V.i (sumI g l)) :=
  sum_spec A.ok A.ids (fun t h => A.run _ (ht t h).x.1 (ht t h).x.2) hl fun t h => ⟨⟨(ht t h).c.1, (ht t h).c.2.1⟩, A.bound _ (ht t h).x.1 (ht t h).x.2⟩

theorem lin_spec {c : Con} {n : Needs} (hk : c.kind = 1) (hc : ConOk c vars n) : Pf Try.prog model_lin.id [.agg c.cells, .fn (.func f) [] cap] (.bool (holdsK c g)) := by
  have hid := A.ids
  refine DC.of model_lin.ok (by simp) ?_
  simp [model_lin.ir, model_lin.rs, Con.cells, vTerms, vInts, vIntss, hid]
  refine (sumAt_spec A hc.termsN hc.terms).use ?_
  simp [hid]
  refine (is_spec c.op (sumI g c.terms) c.k).use ?_
  simp [holdsK, hk]

theorem ne_spec {c : Con} {n : Needs} (hk : c.kind = 2) (hx : n.x = true) (hy : n.y = true) (hc : ConOk c vars n) : Pf Try.prog model_kinds_1.id [.agg c.cells, .fn (.func f) [] cap] (.bool (holdsK c g)) := by
  have hid := A.ids
  have hok := A.ok
  refine DC.of model_kinds_1.ok (by simp) ?_
  simp [model_kinds_1.ir, model_kinds_1.rs, Con.cells, vTerms, vInts, vIntss, hid, hok]
  refine DP.mono (A.run _ (hc.x hx).1 (hc.x hx).2) fun r hr => ?_
  subst hr
  refine DP.mono (A.run _ (hc.y hy).1 (hc.y hy).2) fun r hr => ?_
  subst hr
  have hb := A.bound _ (hc.y hy).1 (hc.y hy).2
  have hk' := hc.k
  have hw : IntKind.i64.wrap (g c.y + c.k) = g c.y + c.k := by rw [wrap64] <;> omega
  simp [hw, holdsK, hk]
  by_cases h : g c.x = g c.y + c.k <;> simp [h]

theorem element_spec {c : Con} {n : Needs} (hk : c.kind = 4) (hx : n.x = true) (hy : n.y = true) (hc : ConOk c vars n) : Pf Try.prog model_element.id [.agg c.cells, .fn (.func f) [] cap] (.bool (holdsK c g)) := by
  have hid := A.ids
  have hok := A.ok
  refine DC.of model_element.ok (by simp) ?_
  simp [model_element.ir, model_element.rs, Con.cells, vTerms, vInts, vIntss, hid, hok]
  refine DP.mono (A.run _ (hc.x hx).1 (hc.x hx).2) fun r hr => ?_
  subst hr
  generalize hi : g c.x = i
  by_cases h0 : 0 ≤ i
  · by_cases h1 : i < c.table.length
    · obtain ⟨k, rfl⟩ := Int.eq_ofNat_of_zero_le h0
      have h1' : k < c.table.length := by omega
      simp [hid, hok, h1', hi]
      refine DP.mono (A.run _ (hc.y hy).1 (hc.y hy).2) fun r hr => ?_
      subst hr
      simp [hid, hok, h1', holdsK, hk, hi, atI]
      rfl
    · simp [hid, hok, h0, h1, holdsK, hk, hi]
  · simp [hid, hok, h0, holdsK, hk, hi]

theorem reif_spec {c : Con} {n : Needs} (hk : c.kind = 7) (hx : n.x = true) (hc : ConOk c vars n) : Pf Try.prog model_reif.id [.agg c.cells, .fn (.func f) [] cap] (.bool (holdsK c g)) := by
  have hid := A.ids
  have hok := A.ok
  refine DC.of model_reif.ok (by simp) ?_
  simp [model_reif.ir, model_reif.rs, Con.cells, vTerms, vInts, vIntss, hid, hok]
  refine DP.mono (A.run _ (hc.x hx).1 (hc.x hx).2) fun r hr => ?_
  subst hr
  simp [hid, hok]
  refine (sumAt_spec A hc.termsN hc.terms).use ?_
  by_cases h : sumI g c.terms ≤ c.k
  · simp [hid, hok, h, holdsK, hk]
    rfl
  · simp [hid, hok, h, holdsK, hk]
    rfl

theorem each_spec {xs : List Int} (hl : xs.length ≤ 64) (hx : ∀ x ∈ xs, 0 ≤ x ∧ x < vars) : Pf Try.prog model_each.id [vInts xs, .fn (.func f) [] cap] (vInts (xs.map g)) := by
  have hid := A.ids
  have hok := A.ok
  refine DC.of model_each.ok (by simp) ?_
  simp [model_each.ir, model_each.rs, vInts, hid, hok]
  refine WI.mono (Q := fun e s => e = .exit 0 ∧ ((xs = [] ∧ gt s.sl 5 = .a (.slice none 0 0) ∧ s.hp = []) ∨ ∃ o, gt s.sl 5 = .own 1 1 0 xs.length xs.length ∧ s.hp = [o, .mem false [] ((xs.map g).map fun x => [V.i x])])) (WI.loop 2 (by simp) (fun s => ∃ i, i ≤ xs.length ∧ gt s.sl 1 = .fn (.func f) [] cap ∧ gt s.sl 8 = vInts xs ∧ gt s.sl 9 = V.i xs.length ∧ gt s.sl 10 = V.i i ∧
      ((i = 0 ∧ gt s.sl 5 = .a (.slice none 0 0) ∧ s.hp = []) ∨ ∃ o, 0 < i ∧ gt s.sl 5 = .own 1 1 0 i i ∧ s.hp = [o, .mem false [] (((xs.take i).map g).map fun x => [V.i x])])) (fun s => (xs.length - (gt s.sl 10).num).toNat) ?_ ?_) ?_
  · exact ⟨0, by simp [vInts]⟩
  · rintro ⟨sl, hp, bs⟩ ⟨i, hi, h1, h8, h9, h10, hcase⟩
    by_cases hil : i < xs.length
    · have hxi := hx _ (List.getElem_mem hil)
      have hw : IntKind.i64.wrap ((i : Int) + 1) = ((i + 1 : Nat) : Int) := by rw [wrap64] <;> omega
      have htk : List.take (i + 1) (List.map ((fun n => [V.i n]) ∘ g) xs) = List.take i (List.map ((fun n => [V.i n]) ∘ g) xs) ++ [[V.i (g xs[i])]] := by
        rw [List.take_succ_eq_append_getElem (by simpa using hil)]; simp
      have h1w : IntKind.i64.wrap 1 = 1 := by decide
      rcases hcase with ⟨rfl, h5, rfl⟩ | ⟨o, h0, h5, rfl⟩
      · simp [model_each.b0, h1, h5, h8, h9, h10, vInts, hil, hid, hok]
        refine DP.mono (A.run _ hxi.1 hxi.2) fun r hr => ?_
        subst hr
        simp [hid, hok]
        exact ⟨⟨1, by omega, h1w, by omega, rfl, by simpa using htk.symm⟩, by omega⟩
      · simp [model_each.b0, h1, h5, h8, h9, h10, vInts, hil, hid, hok]
        refine DP.mono (A.run _ hxi.1 hxi.2) fun r hr => ?_
        subst hr
        simp [hid, hok]
        exact ⟨by omega, by omega, ⟨i + 1, by omega, hw, by omega, rfl, htk.symm⟩, by omega⟩
    · obtain rfl : i = xs.length := by omega
      simp [model_each.b0, h1, h8, h9, h10]
      rcases hcase with ⟨h0, h5, rfl⟩ | ⟨o, h0, h5, rfl⟩
      · exact .inl ⟨by simpa using h0, h5, rfl⟩
      · refine .inr ⟨h5, ?_⟩
        simp
  · rintro e ⟨sl, hp, bs⟩ ⟨rfl, ⟨h0, h5, rfl⟩ | ⟨o, h5, rfl⟩⟩
    · simp [h0, h5]
    · simp [h5]
      exact List.take_of_length_le (by simp)
end
end Go.Abs.G


namespace Go.Abs.G
open Go.Proofs
set_option linter.unusedVariables false
set_option linter.unusedSimpArgs false
attribute [local simp] I.vc sub merge place

theorem equal_spec (a b : List Int) (ha : a.length ≤ maxLen) : Pf Try.prog slices_Equal_Lint_int.id [vInts a, vInts b] (.bool (decide (a = b))) := by
  have hm : (maxLen : Int) ≤ 9223372036854775807 := by decide
  refine DC.of slices_Equal_Lint_int.ok (by simp) ?_
  by_cases hl : a.length = b.length
  · have hl' : (a.length : Int) = b.length := by omega
    simp [slices_Equal_Lint_int.ir, slices_Equal_Lint_int.rs, vInts, hl]
    refine WI.mono (Q := fun e s => (e = .exit 0 ∧ a = b) ∨ (e = .ret ∧ a ≠ b ∧ gt s.sl 4 = .bool false)) (WI.loop 0 (by simp) (fun s => ∃ i, i ≤ a.length ∧ gt s.sl 0 = vInts a ∧ gt s.sl 1 = vInts b ∧ gt s.sl 12 = V.i a.length ∧ gt s.sl 13 = V.i i ∧ s.hp = [] ∧ a.take i = b.take i) (fun s => (a.length - (gt s.sl 13).num).toNat) ?_ ?_) ?_
    · exact ⟨0, by simp [vInts, hl]⟩
    · rintro ⟨sl, hp, bs⟩ ⟨i, hi, h0, h1, h12, h13, rfl, he⟩
      by_cases hil : i < a.length
      · have hil2 : i < b.length := by omega
        have hw : IntKind.i64.wrap ((i : Int) + 1) = ((i + 1 : Nat) : Int) := by rw [wrap64] <;> omega
        by_cases hx : a[i] = b[i]
        · have he' : a.take (i + 1) = b.take (i + 1) := by
            rw [List.take_succ_eq_append_getElem hil, List.take_succ_eq_append_getElem hil2, he, hx]
          simp [slices_Equal_Lint_int.b0, h0, h1, h12, h13, vInts, hil, hil2, hx, hw]
          exact ⟨⟨i + 1, by omega, by omega, he'⟩, by omega⟩
        · simp [slices_Equal_Lint_int.b0, h0, h1, h12, h13, vInts, hil, hil2, hx]
          exact fun h => hx (by simp [h])
      · obtain rfl : i = a.length := by omega
        rw [List.take_length, hl, List.take_length] at he
        simp [slices_Equal_Lint_int.b0, h0, h1, h12, h13, he]
    · rintro e ⟨sl, hp, bs⟩ (⟨rfl, he⟩ | ⟨rfl, he, h4⟩)
      · simp [he]
      · simp [he, h4]
  · have hl' : ¬ (a.length : Int) = b.length := by omega
    have hne : a ≠ b := fun h => hl (by rw [h])
    simp [slices_Equal_Lint_int.ir, slices_Equal_Lint_int.rs, vInts, hl, hl', hne]

theorem table1_spec (r l : List Int) (hr : r.length ≤ maxLen) : Pf Try.prog model_table_1.id [vInts r, .ref [vInts l] 0] (.bool (decide (r = l))) := by
  refine DC.of model_table_1.ok (by simp) ?_
  simp [model_table_1.ir, model_table_1.rs, vInts]
  exact (equal_spec r l hr).use (by simp)

section
variable {f : FuncId} {cap : List V} {g : Int → Int} {vars : Nat} (A : AtOk f cap g vars)
include A

theorem table_spec {c : Con} {n : Needs} (hk : c.kind = 8) (hc : ConOk c vars n) (hr : ∀ r ∈ c.rows, r.length ≤ maxLen) : Pf Try.prog model_table.id [.agg c.cells, .fn (.func f) [] cap] (.bool (holdsK c g)) := by
  have hm : (64 : Nat) ≤ maxLen := by decide
  have hid := A.ids
  have hok := A.ok
  refine DC.of model_table.ok (by simp) ?_
  simp [model_table.ir, model_table.rs, Con.cells, vTerms, vInts, vIntss, hid, hok]
  refine (each_spec A hc.xsN hc.xs).use ?_
  have hH : holdsK c g = c.rows.any fun r => decide (r = c.xs.map g) := by simp [holdsK, hk]
  rw [hH]
  generalize c.xs.map g = L
  simp [vInts]
  refine DP.mono (contains_ints_spec (p := fun r => decide (r = L)) (cap := [.ref [vInts L] 0]) (l := c.rows) (by simp) (by simp) (fun t ht => table1_spec t _ (hr t ht)) (by have := hc.rowsN; omega)) fun r hr' => ?_
  subst hr'
  simp

theorem filter_take_succ (p : Int → Bool) {l : List Int} {i : Nat} (h : i < l.length) : ((l.take (i + 1)).filter p).length = ((l.take i).filter p).length + if p l[i] then 1 else 0 := by
  rw [List.take_succ_eq_append_getElem h, List.filter_append, List.length_append]
  by_cases hp : p l[i] = true <;> simp [hp]

theorem count_spec {c : Con} {n : Needs} (hk : c.kind = 9) (hc : ConOk c vars n) : Pf Try.prog model_count.id [.agg c.cells, .fn (.func f) [] cap] (.bool (holdsK c g)) := by
  have hid := A.ids
  have hok := A.ok
  have hn := hc.xsN
  refine DC.of model_count.ok (by simp) ?_
  simp [model_count.ir, model_count.rs, Con.cells, vTerms, vInts, vIntss, hid, hok]
  refine (each_spec A hc.xsN hc.xs).use ?_
  simp [vInts, hid]
  refine WI.mono (Q := fun e s => e = .exit 0 ∧ gt s.sl 2 = .ptr 0 1 0 0 ∧ gt s.sl 5 = V.i ((c.xs.filter fun x => decide (g x = c.v)).length) ∧ s.hp = [.mem false [] [c.cells]]) (WI.loop 1 (by simp) (fun s => ∃ i, i ≤ c.xs.length ∧ gt s.sl 2 = .ptr 0 1 0 0 ∧ gt s.sl 5 = V.i (((c.xs.take i).filter fun x => decide (g x = c.v)).length) ∧ gt s.sl 11 = vInts (c.xs.map g) ∧ gt s.sl 12 = V.i c.xs.length ∧ gt s.sl 13 = V.i i ∧ s.hp = [.mem false [] [c.cells]]) (fun s => (c.xs.length - (gt s.sl 13).num).toNat) ?_ ?_) ?_
  · exact ⟨0, by simp [vInts, Con.cells, vTerms, vIntss]⟩
  · rintro ⟨sl, hp, bs⟩ ⟨i, hi, h2, h5, h11, h12, h13, rfl⟩
    by_cases hil : i < c.xs.length
    · have hw : IntKind.i64.wrap ((i : Int) + 1) = ((i + 1 : Nat) : Int) := by rw [wrap64] <;> omega
      have hs := filter_take_succ A (fun x => decide (g x = c.v)) hil
      have hle : ((c.xs.take i).filter fun x => decide (g x = c.v)).length ≤ 64 := by
        have := List.length_filter_le (fun x => decide (g x = c.v)) (c.xs.take i)
        simp at this; omega
      generalize hN : ((c.xs.take i).filter fun x => decide (g x = c.v)).length = N at *
      have hw2 : IntKind.i64.wrap ((N : Int) + 1) = ((N + 1 : Nat) : Int) := by rw [wrap64] <;> omega
      by_cases hx : g c.xs[i] = c.v
      · simp [model_count.b0, h2, h5, h11, h12, h13, vInts, Con.cells, vTerms, vIntss, hil, hx, hw, hw2]
        simp [hx] at hs
        exact ⟨⟨i + 1, by omega, by omega, by omega⟩, by omega⟩
      · simp [model_count.b0, h2, h5, h11, h12, h13, vInts, Con.cells, vTerms, vIntss, hil, hx, hw, hw2]
        simp [hx] at hs
        exact ⟨⟨i + 1, by omega, by omega, by omega⟩, by omega⟩
    · obtain rfl : i = c.xs.length := by omega
      rw [List.take_length] at h5
      simp [model_count.b0, h2, h5, h11, h12, h13]
  · rintro e ⟨sl, hp, bs⟩ ⟨rfl, h2, h5, rfl⟩
    simp [h2, h5, Con.cells, vTerms, vInts, vIntss]
    refine (is_spec c.op _ c.k).use ?_
    simp [holdsK, hk]
end
end Go.Abs.G


namespace Go.Abs.G
open Go.Proofs
set_option linter.unusedVariables false
set_option linter.unusedSimpArgs false

/-- A store that lies open somewhere. -/
structure Uat (H : Heap) (s : List Dom) (T : List (List Ce)) (p a b : Nat) : Prop where
  h0 : H[p]? = some (.mem false [a, b] [[.own a 4 0 s.length s.length, .own b 1 0 T.length T.length]])
  h1 : H[a]? = some (.mem false [] (s.map Dom.row))
  h2 : H[b]? = some (.tree [] T)
  na : p ≠ a
  nb : p ≠ b
  nab : a ≠ b

section
variable {H : Heap} {s : List Dom} {T : List (List Ce)} {p a b : Nat}
theorem Uat.sub (h : Uat H s T p a b) (hT : ∀ f, Ce.renR f T = T) : Abs.sub H [p, a, b] = U s T := by
  have i1 : idx [p, a, b] a = 1 := by simp [idx, List.idxOf_cons, beq_false_of_ne h.na]
  have i2 : idx [p, a, b] b = 2 := by simp [idx, List.idxOf_cons, beq_false_of_ne h.nb, beq_false_of_ne h.nab]
  simp [-idx, Abs.sub, getD_some h.h0, getD_some h.h1, getD_some h.h2, h.h0, h.h1, h.h2, O.ren, V.renL, V.ren, i1, i2, hT, U, Function.comp_def]
theorem Uat.ok (h : Uat H s T p a b) : OkSel H [p, a, b] := by
  refine ⟨by simp [h.na, h.nb, h.nab], fun i hi => ?_, fun i hi => ?_, fun i hi k hk => ?_⟩ <;> (simp only [List.mem_cons, List.not_mem_nil, or_false] at hi)
  · rcases hi with rfl | rfl | rfl
    · exact lt_of_get h.h0
    · exact lt_of_get h.h1
    · exact lt_of_get h.h2
  · rcases hi with rfl | rfl | rfl
    · rw [getD_some h.h0]; simp
    · rw [getD_some h.h1]; simp
    · rw [getD_some h.h2]; simp
  · rcases hi with rfl | rfl | rfl
    · rw [getD_some h.h0] at hk; simp [O.refs] at hk ⊢; exact .inr hk
    · rw [getD_some h.h1] at hk; simp [O.refs] at hk
    · rw [getD_some h.h2] at hk; simp [O.refs] at hk
theorem Uat.clos (h : Uat H s T p a b) : clos H 8 [p] = [p, a, b] := by
  have h3 : ∀ n, Abs.clos H n [p, a, b] = [p, a, b] := fun n => clos_stop H n _ h.ok.cl
  have cs : ∀ n l, Abs.clos H (n + 1) l = Abs.clos H n (addAll l (l.flatMap fun i => (H.getD i .dead).refs)) := fun _ _ => rfl
  rw [cs 7]
  simp only [List.flatMap_cons, List.flatMap_nil, getD_some h.h0, O.refs, List.append_nil]
  have : addAll [p] [a, b] = [p, a, b] := by simp [addAll, Ne.symm h.na, Ne.symm h.nb, Ne.symm h.nab]
  rw [this]; exact h3 7
theorem Uat.merge (h : Uat H s T p a b) (hT : ∀ f, Ce.renR f T = T) : merge H [p, a, b] (U s T) = H := by
  have i1 : back [p, a, b] H.length 1 = a := rfl
  have i2 : back [p, a, b] H.length 2 = b := rfl
  have e0 : O.ren (back [p, a, b] H.length) (.mem false [1, 2] [[.own 1 4 0 s.length s.length, .own 2 1 0 T.length T.length]]) = .mem false [a, b] [[.own a 4 0 s.length s.length, .own b 1 0 T.length T.length]] := by simp [O.ren, V.renL, V.ren, i1, i2]
  have e1 : O.ren (back [p, a, b] H.length) (.mem false [] (s.map Dom.row)) = .mem false [] (s.map Dom.row) := by simp [O.ren, Function.comp_def]
  have e2 : O.ren (back [p, a, b] H.length) (.tree [] T) = .tree [] T := by simp [O.ren, hT]
  simp only [Abs.merge, U, List.length_cons, List.length_nil, Nat.zero_add, Nat.reduceAdd, List.take_succ_cons, List.take_zero, List.map_cons, List.map_nil, List.drop_succ_cons, List.drop_zero, List.append_nil, e0, e1, e2, place]
  rw [set_same h.h0, set_same h.h1, set_same h.h2]
end

/-- A look at a store among others. -/
theorem callm_U {P : Program} {k : St → Prop} {st : St} {d : Option Nat} {f : FuncId} {xs : List Operand} {zs : List V} {r0 : V} {s : List Dom} {T : List (List Ce)} {p a b : Nat} (hc : DC P f zs (U s T) fun r H => r = r0 ∧ H = U s T) (h : Uat st.hp s T p a b) (hT : ∀ f, Ce.renR f T = T)
    (hi : addAll [] (V.idsL (xs.map st.ev)) = [p]) (ha : V.renL (idx [p, a, b]) (xs.map st.ev) = zs) (hf : okFunc P f = true) (hk : k (st.put d (r0.ren (back [p, a, b] st.hp.length)))) : I.vc P (.callm d (.func f) xs) k st :=
  callm_go hc [p, a, b] (by rw [hi, h.clos]) h.ok ha (h.sub hT) hf (by rw [h.merge hT]; exact hk)

def sameB (s t : List Dom) : Bool := decide (s.length = t.length) && (List.range s.length).all fun x => decide (valsB s (x : Nat) = valsB t (x : Nat))

theorem same_body {s t : List Dom} {T T' : List (List Ce)} (hs : StOk s T) (ht : StOk t T') {H : Heap} {p a b p' a' b' : Nat} (h : Uat H s T p a b) (h' : Uat H t T' p' a' b') (hH : H.map (limO H.length) = H) :
    DC Try.prog dom_Same.id [.ptr p 1 0 0, .ptr p' 1 0 0] H (fun r H' => r = .bool (sameB s t) ∧ H'.take H.length = H) := by
  refine DC.of dom_Same.ok (by simp) ?_
  unfold dom_Same.ir
  refine vc_cut (At [(0, .ptr p 1 0 0), (1, .ptr p' 1 0 0)] H) (by simp [At]) ?_
  rintro ⟨sl, hp, bs⟩ ⟨rfl, g⟩
  simp only [sls_cons, sls_one] at g
  simp only at h h' hH
  have hn := hs.n
  have hn' := ht.n
  refine vc_cut (fun st => s.length = t.length ∧ At [(0, .ptr p 1 0 0), (1, .ptr p' 1 0 0)] hp st) ?_ ?_
  · by_cases hl : s.length = t.length
    · simp [g, h.h0, h'.h0, h.h1, h'.h1, hl, At]
    · have hl' : ¬ (s.length : Int) = t.length := by omega
      simp [g, h.h0, h'.h0, h.h1, h'.h1, hl, hl', dom_Same.rs, sameB]
  clear g
  rintro ⟨sl, hp, bs⟩ ⟨hl, rfl, g⟩
  simp only [sls_cons, sls_one] at g
  simp only at h h' hH
  obtain ⟨n, hN⟩ : ∃ n, n = s.length := ⟨_, rfl⟩
  have key : sameB s t = (List.range n).all fun x => decide (valsB s (x : Nat) = valsB t (x : Nat)) := by simp [sameB, hl, hN]
  refine vc_cut (fun st => sameB s t = true ∧ st.hp.take hp.length = hp) ?_ ?_
  · refine vc_cut (At [(0, .ptr p 1 0 0), (1, .ptr p' 1 0 0), (21, V.i n), (22, V.i 0)] hp) (by simp [g, h.h0, h.h1, At, hN]) ?_
    clear g
    rintro ⟨sl, hp, bs⟩ ⟨rfl, g⟩
    simp only [sls_cons, sls_one] at g
    simp only at h h' hH
    refine vc_block_of (vc_upto hp.length (Nat.le_refl _) n (fun i st => (∀ x, x < i → valsB s (x : Nat) = valsB t (x : Nat)) ∧ At [(0, .ptr p 1 0 0), (1, .ptr p' 1 0 0), (21, V.i n), (22, V.i i)] hp st) ⟨by simp, rfl, by simpa using g⟩ ?_)
    clear g
    rintro i ⟨sl, hp, bs⟩ hi ⟨hx, rfl, g⟩
    simp only [sls_cons, sls_one] at g
    simp only at h h' hH
    unfold dom_Same.b0
    by_cases hil : i < n
    · have hw : IntKind.i64.wrap ((i : Int) + 1) = ((i + 1 : Nat) : Int) := by rw [wrap64] <;> omega
      refine vc_cut (At [(0, .ptr p 1 0 0), (1, .ptr p' 1 0 0), (21, V.i n), (22, V.i i), (23, .bool true)] hp) (by simp [g, At, hil]) ?_
      clear g
      rintro ⟨sl, hp, bs⟩ ⟨rfl, g⟩
      simp only [sls_cons, sls_one] at g
      simp only at h h' hH
      refine vc_cut (At [(0, .ptr p 1 0 0), (1, .ptr p' 1 0 0), (21, V.i n), (22, V.i i)] hp) (by simp [g, At]) ?_
      clear g
      rintro ⟨sl, hp, bs⟩ ⟨rfl, g⟩
      simp only [sls_cons, sls_one] at g
      simp only at h h' hH
      refine vc_cut (fun st => valsB s (i : Nat) = valsB t (i : Nat) ∧ At [(0, .ptr p 1 0 0), (1, .ptr p' 1 0 0), (21, V.i n), (22, V.i i)] hp st) (vc_block_of ?_) ?_
      · have hv := valsB_len hs (i : Nat)
        have hv' := valsB_len ht (i : Nat)
        simp [g]
        refine callm_U (values_spec hs (i : Nat)) h hs.t ?_ ?_ (by simp) ?_
        · simp [g, addAll]
        · simp [g, -idx, idx, List.idxOf_cons]
        simp [g]
        refine callm_U (values_spec ht (i : Nat)) h' ht.t ?_ ?_ (by simp) ?_
        · simp [g, addAll]
        · simp [g, -idx, idx, List.idxOf_cons]
        simp [g]
        refine call_go (equal_spec (valsB s (i : Nat)) (valsB t (i : Nat)) (by have : (64 : Nat) ≤ maxLen := by decide
                                                                               omega)) ?_ ?_ ?_
        · simp [g, vInts]
        · simp [vInts]
        by_cases he : valsB s (i : Nat) = valsB t (i : Nat)
        · simp [g, he, At]
        · have : sameB s t = false := by
            rw [key, List.all_eq_false]
            exact ⟨i, by simpa using hil, by simpa using he⟩
          simp [g, he, this, dom_Same.rs]
      · clear g
        rintro ⟨sl, hp, bs⟩ ⟨he, rfl, g⟩
        simp only [sls_cons, sls_one] at g
        have l1 := lt_of_get h.h0
        have l2 := lt_of_get h'.h0
        simp only at hH l1 l2
        simp [g, hw, hil, l1, l2, At, hH]
        intro x hx'
        by_cases hxi : x = i
        · rw [hxi]; exact he
        · exact hx x (by omega)
    · have hik : i = n := by omega
      subst hik
      refine vc_cut (At [(0, .ptr p 1 0 0), (23, .bool false)] hp) (by simp [g, At]) ?_
      clear g
      rintro ⟨sl, hp, bs⟩ ⟨rfl, g⟩
      simp only [sls_cons, sls_one] at g
      simp [g, key]
      exact hx
  · rintro ⟨sl, hp, bs⟩ ⟨h1, h2⟩
    simp [dom_Same.rs, h1]
    exact h2
end Go.Abs.G

namespace Go.Abs.G
open Go.Proofs
set_option linter.unusedVariables false
set_option linter.unusedSimpArgs false

theorem open_at {w : World} {β : Nat → Hd} {F : Nat → Prop} {H : Heap} {s : List Dom} {T : List (List Ce)} {p : Nat} (hk : HOK w.heap H β F) (hp : H[p]? = some (St1 s T)) (hT : Ce.idsR T = []) :
    ∃ β' H2, Adv F w H β w H2 β' ∧ Uat H2 s T p H.length (H.length + 1) ∧ H2.length = H.length + 2 ∧ ∀ j, j < H.length → j ≠ p → H2[j]? = H[j]? := by
  have hlt := lt_of_get hp
  obtain ⟨L, hL⟩ : ∃ L, L = H.length := ⟨_, rfl⟩
  obtain ⟨β1, a1⟩ := adv_unpack (id := p) (i := 0) (j := 0) hk hp rfl rfl
  rw [List.length_map, ← hL] at a1
  have p1 : (H.set p (.tree (L :: []) (([[Ce.n 4 (s.map domCe), Ce.n 1 T]]).set 0 ([Ce.n 4 (s.map domCe), Ce.n 1 T].set 0 (.v (.own L 4 0 s.length s.length))))) ++ [O.tree [] (s.map domCe)])[p]? = some (.tree [L] [[.v (.own L 4 0 s.length s.length), .n 1 T]]) := by
    rw [List.getElem?_append_left (by rw [List.length_set]; exact hlt)]; exact get_set hp
  have q1 : (H.set p (.tree (L :: []) (([[Ce.n 4 (s.map domCe), Ce.n 1 T]]).set 0 ([Ce.n 4 (s.map domCe), Ce.n 1 T].set 0 (.v (.own L 4 0 s.length s.length))))) ++ [O.tree [] (s.map domCe)])[L]? = some (.tree [] (s.map domCe)) := by
    rw [List.getElem?_append_right (by rw [List.length_set]; omega)]; simp [hL]
  have l1 : (H.set p (.tree (L :: []) (([[Ce.n 4 (s.map domCe), Ce.n 1 T]]).set 0 ([Ce.n 4 (s.map domCe), Ce.n 1 T].set 0 (.v (.own L 4 0 s.length s.length))))) ++ [O.tree [] (s.map domCe)]).length = L + 1 := by simp [hL]
  have o1 : ∀ j, j < L → j ≠ p → (H.set p (.tree (L :: []) (([[Ce.n 4 (s.map domCe), Ce.n 1 T]]).set 0 ([Ce.n 4 (s.map domCe), Ce.n 1 T].set 0 (.v (.own L 4 0 s.length s.length))))) ++ [O.tree [] (s.map domCe)])[j]? = H[j]? := fun j h1 h2 => by
    rw [List.getElem?_append_left (by rw [List.length_set]; omega), getElem?_set_ne' h2]
  generalize H.set p (.tree (L :: []) (([[Ce.n 4 (s.map domCe), Ce.n 1 T]]).set 0 ([Ce.n 4 (s.map domCe), Ce.n 1 T].set 0 (.v (.own L 4 0 s.length s.length))))) ++ [O.tree [] (s.map domCe)] = H1 at a1 p1 q1 l1 o1
  obtain ⟨β2, a2⟩ := adv_unpack (id := p) (i := 0) (j := 1) a1.hok p1 rfl rfl
  rw [l1] at a2
  have p2 : (H1.set p (.tree ((L + 1) :: [L]) (([[Ce.v (.own L 4 0 s.length s.length), Ce.n 1 T]]).set 0 ([Ce.v (.own L 4 0 s.length s.length), Ce.n 1 T].set 1 (.v (.own (L + 1) 1 0 T.length T.length))))) ++ [O.tree [L] T])[p]? = some (.tree [L + 1, L] [[.v (.own L 4 0 s.length s.length), .v (.own (L + 1) 1 0 T.length T.length)]]) := by
    rw [List.getElem?_append_left (by rw [List.length_set]; omega)]; exact get_set p1
  have q2 : (H1.set p (.tree ((L + 1) :: [L]) (([[Ce.v (.own L 4 0 s.length s.length), Ce.n 1 T]]).set 0 ([Ce.v (.own L 4 0 s.length s.length), Ce.n 1 T].set 1 (.v (.own (L + 1) 1 0 T.length T.length))))) ++ [O.tree [L] T])[L]? = some (.tree [] (s.map domCe)) := by
    rw [List.getElem?_append_left (by rw [List.length_set]; omega), getElem?_set_ne' (by omega)]; exact q1
  have r2 : (H1.set p (.tree ((L + 1) :: [L]) (([[Ce.v (.own L 4 0 s.length s.length), Ce.n 1 T]]).set 0 ([Ce.v (.own L 4 0 s.length s.length), Ce.n 1 T].set 1 (.v (.own (L + 1) 1 0 T.length T.length))))) ++ [O.tree [L] T])[L + 1]? = some (.tree [L] T) := by
    rw [List.getElem?_append_right (by rw [List.length_set]; omega)]; simp [l1]
  have l2 : (H1.set p (.tree ((L + 1) :: [L]) (([[Ce.v (.own L 4 0 s.length s.length), Ce.n 1 T]]).set 0 ([Ce.v (.own L 4 0 s.length s.length), Ce.n 1 T].set 1 (.v (.own (L + 1) 1 0 T.length T.length))))) ++ [O.tree [L] T]).length = L + 2 := by simp [l1]
  have o2 : ∀ j, j < L → j ≠ p → (H1.set p (.tree ((L + 1) :: [L]) (([[Ce.v (.own L 4 0 s.length s.length), Ce.n 1 T]]).set 0 ([Ce.v (.own L 4 0 s.length s.length), Ce.n 1 T].set 1 (.v (.own (L + 1) 1 0 T.length T.length))))) ++ [O.tree [L] T])[j]? = H[j]? := fun j h1 h2 => by
    rw [List.getElem?_append_left (by rw [List.length_set]; omega), getElem?_set_ne' h2]; exact o1 j h1 h2
  generalize H1.set p (.tree ((L + 1) :: [L]) (([[Ce.v (.own L 4 0 s.length s.length), Ce.n 1 T]]).set 0 ([Ce.v (.own L 4 0 s.length s.length), Ce.n 1 T].set 1 (.v (.own (L + 1) 1 0 T.length T.length))))) ++ [O.tree [L] T] = H2 at a2 p2 q2 r2 l2 o2
  obtain ⟨β3, a3⟩ := adv_refsT (id := L + 1) (refs' := []) a2.hok r2 (by rw [hT]; simp)
  have p3 : (H2.set (L + 1) (.tree [] T))[p]? = _ := (getElem?_set_ne' (by omega)).trans p2
  have q3 : (H2.set (L + 1) (.tree [] T))[L]? = _ := (getElem?_set_ne' (by omega)).trans q2
  have r3 : (H2.set (L + 1) (.tree [] T))[L + 1]? = _ := get_set r2
  have l3 : (H2.set (L + 1) (.tree [] T)).length = L + 2 := by rw [List.length_set]; exact l2
  have o3 : ∀ j, j < L → j ≠ p → (H2.set (L + 1) (.tree [] T))[j]? = H[j]? := fun j h1 h2 => (getElem?_set_ne' (by omega)).trans (o2 j h1 h2)
  generalize H2.set (L + 1) (.tree [] T) = H3 at a3 p3 q3 r3 l3 o3
  obtain ⟨β4, a4⟩ := adv_toMem (id := L) (refs := []) (rows := s.map Dom.row) a3.hok (by rw [← domCe_flat]; exact q3)
  have p4 : (H3.set L (.mem false [] (s.map Dom.row)))[p]? = _ := (getElem?_set_ne' (by omega)).trans p3
  have q4 : (H3.set L (.mem false [] (s.map Dom.row)))[L]? = _ := get_set q3
  have r4 : (H3.set L (.mem false [] (s.map Dom.row)))[L + 1]? = _ := (getElem?_set_ne' (by omega)).trans r3
  have l4 : (H3.set L (.mem false [] (s.map Dom.row))).length = L + 2 := by rw [List.length_set]; exact l3
  have o4 : ∀ j, j < L → j ≠ p → (H3.set L (.mem false [] (s.map Dom.row)))[j]? = H[j]? := fun j h1 h2 => (getElem?_set_ne' (by omega)).trans (o3 j h1 h2)
  generalize H3.set L (.mem false [] (s.map Dom.row)) = H4 at a4 p4 q4 r4 l4 o4
  obtain ⟨β5, a5⟩ := adv_refsT (id := p) (refs' := [L, L + 1]) a4.hok p4 (by simp [Ce.idsR, Ce.idsL, Ce.ids, V.ids])
  have p5 : (H4.set p (.tree [L, L + 1] [[.v (.own L 4 0 s.length s.length), .v (.own (L + 1) 1 0 T.length T.length)]]))[p]? = _ := get_set p4
  obtain ⟨β6, a6⟩ := adv_toMem (id := p) (refs := [L, L + 1]) (rows := [[.own L 4 0 s.length s.length, .own (L + 1) 1 0 T.length T.length]]) a5.hok p5
  rw [← hL]
  refine ⟨β6, _, a1.trans (a2.trans (a3.trans (a4.trans (a5.trans a6)))), ⟨get_set p5, ?_, ?_, by omega, by omega, by omega⟩, by rw [List.length_set, List.length_set]; exact l4, fun j h1 h2 => ?_⟩
  · rw [getElem?_set_ne' (by omega), getElem?_set_ne' (by omega)]; exact q4
  · rw [getElem?_set_ne' (by omega), getElem?_set_ne' (by omega)]; exact r4
  · rw [getElem?_set_ne' h2, getElem?_set_ne' h2]; exact o4 j h1 h2

theorem two_eq {H : Heap} (x y : O) (h0 : H[0]? = some x) (h1 : H[1]? = some y) : ∃ E, H = x :: y :: E := by
  match H, h0, h1 with
  | a :: b :: E, h0, h1 => simp at h0 h1; exact ⟨E, by rw [h0, h1]⟩

@[simp] theorem St1_lim (n : Nat) (s : List Dom) (T : List (List Ce)) : limO n (St1 s T) = St1 s T := by simp [St1, limO, O.refs]

theorem samePP {s t : List Dom} {ms ns : List (List Dom)} (hs : SOk s ms) (ht : SOk t ns) :
    DC Try.prog dom_Same.id [.ptr 0 1 0 0, .ptr 1 1 0 0] [St1 s (mT ms), St1 t (mT ns)] (fun r H => r = .bool (sameB s t) ∧ H = [St1 s (mT ms), St1 t (mT ns)]) := by
  refine DC.trim (Q := fun r H => r = .bool (sameB s t) ∧ H[0]? = some (St1 s (mT ms)) ∧ H[1]? = some (St1 t (mT ns))) ?_ ?_
  rotate_left
  · rintro r H ⟨rfl, h0, h1⟩
    obtain ⟨E, rfl⟩ := two_eq _ _ h0 h1
    exact ⟨2, by simp, by simp [V.ids], rfl, by simp [-limO]⟩
  intro w β F vs hk hr
  obtain ⟨β1, H1, a1, u1, l1, o1⟩ := open_at (s := s) (T := mT ms) (p := 0) hk rfl (mT_ids ms)
  have hp1 : H1[1]? = some (St1 t (mT ns)) := by rw [o1 1 (by simp) (by simp)]; rfl
  obtain ⟨β2, H2, a2, u2, l2, o2⟩ := open_at (p := 1) a1.hok hp1 (mT_ids ns)
  simp only [List.length_cons, List.length_nil] at l1 u1
  rw [l1] at u2 l2 o2
  have u1' : Uat H2 s (mT ms) 0 2 3 := ⟨(o2 0 (by omega) (by omega)).trans u1.h0, (o2 2 (by omega) (by omega)).trans u1.h1, (o2 3 (by omega) (by omega)).trans u1.h2, u1.na, u1.nb, u1.nab⟩
  have hH : H2 = [.mem false [2, 3] [[.own 2 4 0 s.length s.length, .own 3 1 0 (mT ms).length (mT ms).length]], .mem false [4, 5] [[.own 4 4 0 t.length t.length, .own 5 1 0 (mT ns).length (mT ns).length]], .mem false [] (s.map Dom.row), .tree [] (mT ms), .mem false [] (t.map Dom.row), .tree [] (mT ns)] := by
    match H2, l2, u1', u2 with
    | [a, b, c, d, e, f], l2, u1', u2 =>
      have := u1'.h0; have := u1'.h1; have := u1'.h2; have := u2.h0; have := u2.h1; have := u2.h2
      simp_all
  have body := same_body hs.st ht.st u1' u2 (by rw [hH]; simp [limO, O.refs])
  refine (body w β2 F vs a2.hok (hr.mono (a1.trans a2).le)).mono fun e w' ⟨r, x, H', β3, he, a3, hx, hq, hT⟩ => ?_
  subst hq
  have hl : H2.length = 6 := by rw [hH]; rfl
  rw [hl] at hT
  have hg : ∀ j, j < 6 → H'[j]? = H2[j]? := fun j hj => by rw [← hT, List.getElem?_take, if_pos hj]
  have hr3 := RVs.cons' hx ((hr.mono (a1.trans a2).le).mono a3.le)
  have v1 : Uat H' s (mT ms) 0 2 3 := ⟨(hg 0 (by omega)).trans u1'.h0, (hg 2 (by omega)).trans u1'.h1, (hg 3 (by omega)).trans u1'.h2, u1.na, u1.nb, u1.nab⟩
  have v2 : Uat H' t (mT ns) 1 4 5 := ⟨(hg 1 (by omega)).trans u2.h0, (hg 4 (by omega)).trans u2.h1, (hg 5 (by omega)).trans u2.h2, u2.na, u2.nb, u2.nab⟩
  obtain ⟨β4, H4, a4, c1, c2, c3⟩ := close_storeO (p := 0) (a := 2) (b := 3) a3.hok v1.h0 v1.h1 v1.h2 (mT_ids ms) (by omega) (by omega) (by omega) (lo_arg (i := 1) hr3 rfl (by unfold hdOf; rw [v1.h0]; rfl))
  obtain ⟨β5, H5, a5, d1, d2, d3⟩ := close_storeO (p := 1) (a := 4) (b := 5) a4.hok ((c3 1 (by omega) (by omega) (by omega)).trans v2.h0) ((c3 4 (by omega) (by omega) (by omega)).trans v2.h1) ((c3 5 (by omega) (by omega) (by omega)).trans v2.h2) (mT_ids ns) (by omega) (by omega) (by omega)
    (lo_arg (i := 2) (hr3.mono a4.le) rfl (by unfold hdOf; rw [c3 1 (by omega) (by omega) (by omega), v2.h0]; rfl))
  exact ⟨r, _, H5, β5, he, a1.trans (a2.trans (a3.trans (a4.trans a5))), hx.mono (a4.trans a5).le, rfl, (d3 0 (by omega) (by omega) (by omega)).trans c1, d1⟩

theorem sameB_self (s : List Dom) : sameB s s = true := by simp [sameB]

theorem sameP1 {s : List Dom} {ms : List (List Dom)} (hs : SOk s ms) :
    DC Try.prog dom_Same.id [.ptr 0 1 0 0, .ptr 0 1 0 0] [St1 s (mT ms)] (fun r H => r = .bool true ∧ H = [St1 s (mT ms)]) := by
  refine DC.packed (mT_ids ms) (mT_ids ms) (Q := fun r => r = .bool true) ?_ (by rintro r rfl; rfl)
  have u : Uat (U s (mT ms)) s (mT ms) 0 1 2 := ⟨rfl, rfl, rfl, by simp, by simp, by simp⟩
  refine DC.trim (same_body hs.st hs.st u u rfl) ?_
  rintro r H ⟨rfl, h⟩
  refine ⟨3, by simp, by simp [V.ids], by rw [sameB_self], ?_⟩
  rw [U_len] at h
  rw [h]; rfl

/-- New's store alone. -/
theorem newP1 (m : Model) (hm : okModel m) : DC Try.prog dom_New.id [.agg m.cells] [] (fun r H => r = .ptr 0 1 0 0 ∧ H = [St1 (domsOf m) (mT [])]) := by
  refine DC.picks (newP m hm) ?_
  rintro r H ⟨rfl, B, rfl⟩
  exact ⟨[1], by simp [St1, O.refs], by simp, by simp [V.ids], rfl, by simp [sub, St1, O.ren, Ce.renR, Ce.renL, Ce.ren, domCe_ren, mT_ren]⟩
end Go.Abs.G

/- Evaluation that leaves what comes behind alone. -/
namespace Go.Abs
set_option linter.unusedVariables false

def vcF (P : Program) (c : C) (Q : Ex → St → Prop) [Fix Q] (st : St) : Prop := vc P c Q st
def vcItsF (P : Program) (l : List It) (k : St → Prop) [Fix k] (st : St) : Prop := vcIts P l k st
def IvcF (P : Program) (i : I) (k : St → Prop) [Fix k] (st : St) : Prop := i.vc P k st

section
variable {P : Program} {Q : Ex → St → Prop} {st : St} {x : Operand} {a b c : C} {k : St → Prop} {l its : List It} {j t n id : Nat} {want : Bool} {d : Option Nat} {i : I}
@[simp ↓ high] theorem vcF_of : vc P c Q st = vcF P c Q st := propext Iff.rfl
@[simp ↓ high] theorem vcItsF_of : vcIts P l k st = vcItsF P l k st := propext Iff.rfl
@[simp ↓ high] theorem IvcF_of : I.vc P i k st = IvcF P i k st := propext Iff.rfl
@[simp] theorem vcF_skip : vcF P .skip Q st = Q .norm st := propext Iff.rfl
@[simp] theorem vcF_reg : vcF P (.reg n its) Q st = vcItsF P its (Q .norm) (st.res n) := propext Iff.rfl
@[simp] theorem vcF_seq : vcF P (.seq a b) Q st = vcF P a (fun e s => match e with | .norm => vcF P b Q s | .exit i => Q (.exit i) s | .ret => Q .ret s) st := propext Iff.rfl
@[simp] theorem vcF_block : vcF P (.block id c) Q st = vcF P c (fun e s => match e with | .norm => Q .norm s | .exit i => if i = id then Q .norm s else Q (.exit i) s | .ret => Q .ret s) st := propext Iff.rfl
@[simp] theorem vcF_exit : vcF P (.exit id) Q st = Q (.exit id) st := propext Iff.rfl
@[simp] theorem vcF_ret : vcF P .ret Q st = Q .ret st := propext Iff.rfl
@[simp] theorem vcF_cond_true (h : st.ev x = .a (.bool true)) : vcF P (.cond x a b) Q st = vcF P a Q st := by
  unfold vcF; simp only [vc, h]; exact propext ⟨fun q => q.1 trivial, fun q => ⟨fun _ => q, fun e => by cases e⟩⟩
@[simp] theorem vcF_cond_false (h : st.ev x = .a (.bool false)) : vcF P (.cond x a b) Q st = vcF P b Q st := by
  unfold vcF; simp only [vc, h]; exact propext ⟨fun q => q.2 trivial, fun q => ⟨(fun e => by cases e), fun _ => q⟩⟩
@[simp] theorem vcItsF_nil : vcItsF P [] k st = k st := propext Iff.rfl
@[simp] theorem vcItsF_g : vcItsF P (.g i :: l) k st = IvcF P i (vcItsF P l k) st := propext Iff.rfl
@[simp] theorem vcItsF_o : vcItsF P (.o j i :: l) k st = IvcF P i (vcItsF P l k) st := propext Iff.rfl
@[simp] theorem vcItsF_gd_pos (h : gt st.sl t = .a (.bool want)) : vcItsF P (.gd j t want d i :: l) k st = IvcF P i (vcItsF P l k) (st.put (some t) (.bool want)) := by
  unfold vcItsF IvcF; simp only [vcIts, h]; exact propext ⟨fun q => q.1 trivial, fun q => ⟨fun _ => q, fun e => by cases want <;> cases e⟩⟩
@[simp] theorem vcItsF_gd_neg (h : gt st.sl t = .a (.bool (!want))) : vcItsF P (.gd j t want d i :: l) k st = vcItsF P l k ((st.put (some t) (.bool !want)).put d (.a undef)) := by
  unfold vcItsF; simp only [vcIts, h]; exact propext ⟨fun q => q.2 trivial, fun q => ⟨(fun e => by cases want <;> cases e), fun _ => q⟩⟩
@[simp] theorem vcItsF_gd_un (h : gt st.sl t = .a (.tuple #[])) : vcItsF P (.gd j t want d i :: l) k st = vcItsF P l k (st.put d (.a undef)) := by unfold vcItsF; simp only [vcIts, h]
theorem vcF_cond_split {bb : Bool} (h : st.ev x = .a (.bool bb)) (h1 : bb = true → vcF P a Q st) (h2 : bb = false → vcF P b Q st) : vcF P (.cond x a b) Q st := by
  unfold vcF at *; simp only [vc, h]; exact ⟨h1, h2⟩
theorem vcF_cut {Q : Ex → St → Prop} (R : St → Prop) (h1 : vc P a (fun e s => match e with | .norm => R s | .exit i => Q (.exit i) s | .ret => Q .ret s) st) (h2 : ∀ s, R s → vc P b Q s) : vcF P (.seq a b) Q st := vc_cut R h1 h2
theorem vcF_upto (m : Nat) (hm : st.hp.length ≤ m) (n : Nat) (I : Nat → St → Prop) (h0 : I 0 st)
    (hr : ∀ i s, i ≤ n → I i s → vc P c (fun e s' => match e with | .norm => i < n ∧ I (i + 1) (s'.trim m) | .exit k => Q (.exit k) s' | .ret => Q .ret s') s) : vcF P (.loop c) Q st := WI.upto m hm n I h0 hr
end
/-! What each operation asks, but for calls. -/
section
variable {P : Program} {k : St → Prop} {st : St} {d : Option Nat} {x y v n m key : Operand} {l : L} {t es r len bytes : Nat} {ts ap : List Nat} {zero : List V} {parts : List (Nat × Operand)} {kd : IntKind}
@[simp] theorem F_lt : IvcF P (.lt d l) k st = (l.pre st ∧ k (st.put d (l.val st))) := propext Iff.rfl
@[simp] theorem F_frz : IvcF P (.frz t) k st = (if (gt st.sl t).ids = [] then k st else (gt st.sl t).fzP st.hp ∧ k { st with sl := up st.sl t ((gt st.sl t).fz st.hp), hp := st.hp.fz (gt st.sl t).ids }) := propext Iff.rfl
@[simp] theorem F_nilv : IvcF P (.nilv t es) k st = k { st with sl := up st.sl t (if (gt st.sl t).nilSl then .view es [] else gt st.sl t) } := propext Iff.rfl
@[simp] theorem F_keep : IvcF P (.keep ts) k st = k { st with sl := keepS st.sl ts } := propext Iff.rfl
@[simp] theorem F_wk : IvcF P .wk k st = (∃ st', Weak st st' ∧ k st') := propext Iff.rfl
@[simp] theorem F_alloc : IvcF P (.alloc d r len zero) k st = (st.hp[st.bs + r]? = some .res ∧ zero.length = len ∧ k ({ st with hp := st.hp.set (st.bs + r) (.mem false [] [zero]) }.put d (.ptr (st.bs + r) 1 0 0))) := propext Iff.rfl
@[simp] theorem F_box : IvcF P (.box d r len x) k st = (st.hp[st.bs + r]? = some .res ∧ (st.ev x).sized st.hp len ∧
      k ({ st with hp := st.hp.set (st.bs + r) (.mem false (V.idsL (st.ev x).cells) [(st.ev x).cells]) }.put d (.ptr (st.bs + r) 1 0 0))) := propext Iff.rfl
@[simp] theorem F_bsl : IvcF P (.bsl d r es len zero parts) k st = (st.hp[st.bs + r]? = some .res ∧ zero.length = es ∧ (∀ p ∈ parts, (st.ev p.2).sized st.hp es ∧ p.1 < len) ∧
      k ({ st with hp := st.hp.set (st.bs + r) (.mem false (V.idsL (fillV (List.flatten (List.replicate len zero)) (parts.map fun (p : Nat × Operand) => (p.1 * es, es, st.ev p.2)))) (chunk es len (fillV (List.flatten (List.replicate len zero)) (parts.map fun (p : Nat × Operand) => (p.1 * es, es, st.ev p.2))))) }.put d (.own (st.bs + r) es 0 len len))) := propext Iff.rfl
@[simp] theorem F_bsv : IvcF P (.bsv d es len zero parts) k st = (zero.length = es ∧ (∀ p ∈ parts, V.idsL (st.ev p.2).cells = [] ∧ (st.ev p.2).sized st.hp es ∧ p.1 < len) ∧
      k (st.put d (I.bsvV es len zero (parts.map fun (p : Nat × Operand) => (p.1 * es, es, st.ev p.2))))) := propext Iff.rfl
@[simp] theorem F_mkm : IvcF P (.mkm d r) k st = (st.hp[st.bs + r]? = some .res ∧ k ({ st with hp := st.hp.set (st.bs + r) (.map false [] []) }.put d (.mp (st.bs + r)))) := propext Iff.rfl
@[simp] theorem F_mks : IvcF P (.mks d r es bytes zero n) k st = (st.hp[st.bs + r]? = some .res ∧ zero.length = es ∧ (∃ m, st.ev n = .a (.int .i64 m)) ∧ 0 ≤ (st.ev n).num ∧ (st.ev n).num * bytes ≤ 140737488355328 ∧
      k ({ st with hp := st.hp.set (st.bs + r) (.mem false [] (List.replicate (st.ev n).num.toNat zero)) }.put d (.own (st.bs + r) es 0 (st.ev n).num.toNat (st.ev n).num.toNat))) := propext Iff.rfl
@[simp] theorem F_pan : IvcF P .pan k st = False := propext Iff.rfl
@[simp] theorem F_store : IvcF P (.store ap len x v) k st = (match st.ev x with
    | .ptr id tot i j => match st.hp.getD id .dead with
      | .mem false refs rows => (∀ t ∈ ap, (gt st.sl t).oid ≠ some id) ∧ rows.length = tot ∧ i < tot ∧ j + len ≤ (rows.getD i []).length ∧ (st.ev v).sized st.hp len ∧
          k { st with hp := st.hp.set id (.mem false (addRefs refs (V.idsL (st.ev v).cells)) (rows.set i (rowSet (rows.getD i []) j (st.ev v).cells))) }
      | _ => False
    | _ => False) := propext Iff.rfl
@[simp] theorem F_app : IvcF P (.app ap d r es bytes x y) k st = (match st.ev x with
    | .own id es' off len tot => match st.hp.getD id .dead with
      | .mem false refs rows => (∀ t ∈ ap, (gt st.sl t).oid ≠ some id) ∧ es' = es ∧ rows.length = tot ∧ off + len = tot ∧ okSl st.hp (st.ev y) ∧ (st.ev y).slEs es ∧ ((len : Int) + (st.ev y).slLen) * bytes ≤ 140737488355328 ∧
          k ({ st with hp := st.hp.set id (.mem false (addRefs refs ((st.ev y).rowIds st.hp)) (rows ++ (st.ev y).rowsOf st.hp)) }.put d (.own id es off (len + ((st.ev y).rowsOf st.hp).length) (tot + ((st.ev y).rowsOf st.hp).length)))
      | _ => False
    | .a (.slice none 0 0) => st.hp[st.bs + r]? = some .res ∧ okSl st.hp (st.ev y) ∧ (st.ev y).slEs es ∧ (st.ev y).slLen * bytes ≤ 140737488355328 ∧
          k ({ st with hp := st.hp.set (st.bs + r) (.mem false ((st.ev y).rowIds st.hp) ((st.ev y).rowsOf st.hp)) }.put d (.own (st.bs + r) es 0 ((st.ev y).rowsOf st.hp).length ((st.ev y).rowsOf st.hp).length))
    | .nul es' => es' = es ∧ st.hp[st.bs + r]? = some .res ∧ okSl st.hp (st.ev y) ∧ (st.ev y).slEs es ∧ (st.ev y).slLen * bytes ≤ 140737488355328 ∧
          (if ((st.ev y).rowsOf st.hp).isEmpty = true then k (st.put d (.nul es)) else
            k ({ st with hp := st.hp.set (st.bs + r) (.mem false ((st.ev y).rowIds st.hp) ((st.ev y).rowsOf st.hp)) }.put d (.own (st.bs + r) es 0 ((st.ev y).rowsOf st.hp).length ((st.ev y).rowsOf st.hp).length)))
    | _ => False) := propext Iff.rfl
@[simp] theorem F_cpy : IvcF P (.cpy d es x y) k st = (match st.ev x with
    | .own id es' off len tot => match st.hp.getD id .dead with
      | .mem false refs rows => es' = es ∧ rows.length = tot ∧ off + len ≤ tot ∧ okSl st.hp (st.ev y) ∧ (st.ev y).slEs es ∧ (st.ev y).slLen ≤ len ∧
          k ({ st with hp := st.hp.set id (.mem false (addRefs refs ((st.ev y).rowIds st.hp)) (rows.take off ++ (st.ev y).rowsOf st.hp ++ rows.drop (off + ((st.ev y).rowsOf st.hp).length))) }.put d (.a (.int .i64 (st.ev y).slLen)))
      | _ => False
    | _ => False) := propext Iff.rfl
@[simp] theorem F_mup : IvcF P (.mup ap kd m key v) k st = (match st.ev m with
    | .mp id => match st.hp.getD id .dead with
      | .map false refs es => (∀ t ∈ ap, (gt st.sl t).oid ≠ some id) ∧ (∀ e ∈ es, e.1.isKey kd = true) ∧ (st.ev key).isKey kd = true ∧
          k { st with hp := st.hp.set id (.map false (addRefs refs (V.idsL [st.ev v])) (putE es (st.ev key) (st.ev v))) }
      | _ => False
    | _ => False) := propext Iff.rfl

end

/-! Calls, as steps. -/
section
variable {P : Program} {k : St → Prop} {st : St} {d : Option Nat} {ap : List Nat} {f : FuncId} {xs : List Operand}
theorem gcall {r0 : V} {zs : List V} (hc : Pf P f zs r0) (ha : xs.map st.ev = zs) (hi : V.idsL zs = []) (hk : k (st.put d r0)) : IvcF P (.call d f xs) k st := call_go hc ha hi hk
theorem gcall_gen {zs : List V} {Q : V → Prop} (hc : DP P f zs Q) (ha : xs.map st.ev = zs) (hi : V.idsL zs = []) (hk : ∀ r, Q r → k (st.put d r)) : IvcF P (.call d f xs) k st := by
  subst ha; exact ⟨hi, hc.mono hk⟩
theorem gcallb {r0 : V} {zs : List V} (hc : Pf P f zs r0) (ha : V.fzL st.hp (xs.map st.ev) = zs) (hp : V.fzPL st.hp (xs.map st.ev)) (hf : okFunc P f = true) (hr : r0.flat = true) (hk : k (st.put d r0)) : IvcF P (.callb d (.func f) xs) k st := callb_go hc ha hp hf hr hk
theorem gcallo {zs : List V} {r0 : V} {H0 : Heap} (hc : DC P f zs [] fun r H => r = r0 ∧ H = H0) (ha : xs.map st.ev = zs) (hi : V.idsL zs = []) (hf : okFunc P f = true)
    (hk : k ({ st with hp := st.hp ++ H0.map (O.ren (st.hp.length + ·)) }.put d (r0.ren (st.hp.length + ·)))) : IvcF P (.callo d (.func f) xs) k st := callo_go hc ha hi hf hk
theorem gcallo_gen {zs : List V} {Q : V → Heap → Prop} (hc : DC P f zs [] Q) (ha : xs.map st.ev = zs) (hi : V.idsL zs = []) (hf : okFunc P f = true)
    (hk : ∀ r H', Q r H' → k ({ st with hp := st.hp ++ H'.map (O.ren (st.hp.length + ·)) }.put d (r.ren (st.hp.length + ·)))) : IvcF P (.callo d (.func f) xs) k st := callo_gen hc ha hi hf hk
theorem gcallm {zs : List V} {H0 : Heap} {r0 : V} {H1 : Heap} (hc : DC P f zs H0 fun r H => r = r0 ∧ H = H1) (sel : List Nat) (hs : clos st.hp 8 (addAll [] (V.idsL (xs.map st.ev))) = sel) (hok : OkSel st.hp sel) (ha : V.renL (idx sel) (xs.map st.ev) = zs) (hH : sub st.hp sel = H0)
    (hf : okFunc P f = true) (hk : k ({ st with hp := merge st.hp sel H1 }.put d (r0.ren (back sel st.hp.length)))) : IvcF P (.callm d (.func f) xs) k st := callm_go hc sel hs hok ha hH hf hk
theorem gcallm_gen {zs : List V} {H0 : Heap} {Q : V → Heap → Prop} (hc : DC P f zs H0 Q) (sel : List Nat) (hs : clos st.hp 8 (addAll [] (V.idsL (xs.map st.ev))) = sel) (hok : OkSel st.hp sel) (ha : V.renL (idx sel) (xs.map st.ev) = zs) (hH : sub st.hp sel = H0)
    (hf : okFunc P f = true) (hk : ∀ r H', Q r H' → k ({ st with hp := merge st.hp sel H' }.put d (r.ren (back sel st.hp.length)))) : IvcF P (.callm d (.func f) xs) k st := callm_gen hc sel hs hok ha hH hf hk
theorem gcallm1 {zs : List V} {r0 : V} {o o' : O} {H1 : Heap} (hc : DC P f zs [o] fun r H => r = r0 ∧ H = o' :: H1) (p : Nat) (hi : addAll [] (V.idsL (xs.map st.ev)) = [p]) (hp : st.hp[p]? = some o) (c : o.clo) (c' : o'.clo) (c1 : ∀ q ∈ H1, q.clo)
    (ha : V.renL (idx [p]) (xs.map st.ev) = zs) (hf : okFunc P f = true) (hk : k ({ st with hp := st.hp.set p o' ++ H1 }.put d (r0.ren (back [p] st.hp.length)))) : IvcF P (.callm d (.func f) xs) k st := callm_one hc p hi hp c c' c1 ha hf hk
theorem gcalla1 {zs : List V} {r0 : V} {o o' : O} {H1 : Heap} (hc : DC P f zs [o] fun r H => r = r0 ∧ H = o' :: H1) (p : Nat) (hi : addAll [] (V.idsL (xs.map st.ev)) = [p]) (hp : st.hp[p]? = some o) (c : o.clo) (c' : o'.clo) (c1 : ∀ q ∈ H1, q.clo)
    (hap : ∀ t ∈ ap, (gt st.sl t).oid ≠ some p) (ha : V.renL (idx [p]) (xs.map st.ev) = zs) (hf : okFunc P f = true) (hk : k ({ st with hp := st.hp.set p o' ++ H1 }.put d (r0.ren (back [p] st.hp.length)))) : IvcF P (.calla ap d (.func f) xs) k st := calla_one hc p hi hp c c' c1 hap ha hf hk
/-- Two objects by themselves, looked at. -/
theorem gcallm2 {zs : List V} {r0 : V} {o o2 : O} (hc : DC P f zs [o, o2] fun r H => r = r0 ∧ H = [o, o2]) (p q : Nat) (hne : p ≠ q) (hi : addAll [] (V.idsL (xs.map st.ev)) = [p, q]) (hp : st.hp[p]? = some o) (hq : st.hp[q]? = some o2) (c : o.clo) (c2 : o2.clo)
    (ha : V.renL (idx [p, q]) (xs.map st.ev) = zs) (hf : okFunc P f = true) (hk : k (st.put d (r0.ren (back [p, q] st.hp.length)))) : IvcF P (.callm d (.func f) xs) k st := by
  refine gcallm hc [p, q] ?_ ⟨by simp [hne], fun i hi => ?_, fun i hi => ?_, fun i hi j hj => ?_⟩ ha ?_ hf ?_
  · rw [hi]
    refine clos_stop _ _ _ fun i hi j hj => ?_
    simp only [List.mem_cons, List.not_mem_nil, or_false] at hi
    rcases hi with rfl | rfl
    · rw [getD_some hp, c.refs] at hj; cases hj
    · rw [getD_some hq, c2.refs] at hj; cases hj
  · simp only [List.mem_cons, List.not_mem_nil, or_false] at hi
    rcases hi with rfl | rfl
    · exact lt_of_get hp
    · exact lt_of_get hq
  · simp only [List.mem_cons, List.not_mem_nil, or_false] at hi
    rcases hi with rfl | rfl
    · rw [getD_some hp]; exact c.nres
    · rw [getD_some hq]; exact c2.nres
  · simp only [List.mem_cons, List.not_mem_nil, or_false] at hi
    rcases hi with rfl | rfl
    · rw [getD_some hp, c.refs] at hj; cases hj
    · rw [getD_some hq, c2.refs] at hj; cases hj
  · simp only [sub, List.map_cons, List.map_nil, getD_some hp, getD_some hq, c.ren, c2.ren]
  · have : merge st.hp [p, q] [o, o2] = st.hp := by
      simp only [merge, List.length_cons, List.length_nil, Nat.zero_add, Nat.reduceAdd, List.take_succ_cons, List.take_zero, List.map_cons, List.map_nil, List.drop_succ_cons, List.drop_zero, List.append_nil, place, c.ren, c2.ren, set_same hp, set_same hq]
    rw [this]; exact hk
end
end Go.Abs

namespace Go.Abs.G
open Go.Proofs
set_option linter.unusedVariables false
set_option linter.unusedSimpArgs false

@[simp ↓ high] theorem St1_tree (s : List Dom) (T : List (List Ce)) : (St1 s T).isTree = true := rfl
@[simp ↓ high] theorem St1_trows (s : List Dom) (T : List (List Ce)) : (St1 s T).trows = 1 := rfl
@[simp ↓ high] theorem St1_isMem (s : List Dom) (T : List (List Ce)) : (St1 s T).isMem = false := rfl
@[simp ↓ high] theorem St1_refs (s : List Dom) (T : List (List Ce)) : (St1 s T).refs = [] := rfl
@[simp ↓ high] theorem St1_lim' (n : Nat) (s : List Dom) (T : List (List Ce)) : limO n (St1 s T) = St1 s T := St1_lim n s T
@[simp ↓ high] theorem St1_ren (f : Nat → Nat) (s : List Dom) (ms : List (List Dom)) : O.ren f (St1 s (mT ms)) = St1 s (mT ms) := by
  simp [St1, O.ren, Ce.renR, Ce.renL, Ce.ren, domCe_ren, mT_ren]
@[simp] theorem St1_clo (s : List Dom) (ms : List (List Dom)) : (St1 s (mT ms)).clo := ⟨rfl, fun f => St1_ren f s ms, fun e => by cases e⟩

theorem sameInts_spec (a b : List Int) (ha : a.length ≤ maxLen) : Pf Try.prog hallmarklaw11_sameInts.id [vInts a, vInts b] (.bool (decide (a = b))) := by
  have hM : (maxLen : Int) ≤ 9223372036854775807 := by decide
  refine DC.of hallmarklaw11_sameInts.ok (by simp) ?_
  unfold hallmarklaw11_sameInts.ir
  refine vc_cut (At [(0, vInts a), (1, vInts b)] []) (by simp -dsimp [At]) ?_
  try clear h
  rintro ⟨sl, hp, bs⟩ ⟨rfl, h⟩
  simp only [sls_cons, sls_one, sls_nil] at h
  refine vc_cut (fun st => a.length = b.length ∧ At [(0, vInts a), (1, vInts b)] [] st) ?_ ?_
  · by_cases hl : a.length = b.length
    · simp -dsimp [h, At, hl, vInts]
    · have hl' : ¬ (a.length : Int) = b.length := by omega
      have hne : a ≠ b := fun e => hl (by rw [e])
      simp -dsimp [h, hl, hl', vInts, hallmarklaw11_sameInts.rs, hne]
  try clear h
  rintro ⟨sl, hp, bs⟩ ⟨hl, rfl, h⟩
  simp only [sls_cons, sls_one, sls_nil] at h
  refine vc_cut (fun st => a = b ∧ st.hp = []) ?_ ?_
  · refine vc_cut (At [(0, vInts a), (1, vInts b), (5, V.i 0)] []) (by simp -dsimp [h, At]) ?_
    try clear h
    rintro ⟨sl, hp, bs⟩ ⟨rfl, h⟩
    simp only [sls_cons, sls_one, sls_nil] at h
    refine vc_block_of (vc_upto 0 (by simp) a.length (fun i st => (∀ j, j < i → a[j]? = b[j]?) ∧ At [(0, vInts a), (1, vInts b), (5, V.i i)] [] st) ⟨by simp, rfl, by simpa using h⟩ ?_)
    clear h
    rintro i ⟨sl, hp, bs⟩ hi ⟨hx, rfl, h⟩
    simp only [sls_cons, sls_one] at h
    unfold hallmarklaw11_sameInts.b0
    by_cases hil : i < a.length
    · have hw : IntKind.i64.wrap ((i : Int) + 1) = ((i + 1 : Nat) : Int) := by rw [wrap64] <;> omega
      have hil' : i < b.length := by omega
      refine vc_cut (At [(0, vInts a), (1, vInts b), (5, V.i i)] []) (by simp -dsimp [h, At, hil, vInts]) ?_
      try clear h
      rintro ⟨sl, hp, bs⟩ ⟨rfl, h⟩
      simp only [sls_cons, sls_one, sls_nil] at h
      refine vc_cut (fun st => a[i]? = b[i]? ∧ At [(0, vInts a), (1, vInts b), (5, V.i i)] [] st) ?_ ?_
      · refine vc_block_of ?_
        by_cases he : a[i] = b[i]
        · simp -dsimp [h, At, vInts, hil, hil', he]
        · have hne : a ≠ b := fun e => he (by subst e; rfl)
          simp -dsimp [h, vInts, hil, hil', he, hallmarklaw11_sameInts.rs, hne]
      try clear h
      rintro ⟨sl, hp, bs⟩ ⟨he, rfl, h⟩
      simp only [sls_cons, sls_one, sls_nil] at h
      simp -dsimp [h, At, hw, hil, vInts]
      intro j hj
      by_cases hji : j = i
      · rw [hji]; exact he
      · exact hx j (by omega)
    · have hil' : i = a.length := by omega
      subst hil'
      simp -dsimp [h, vInts]
      apply List.ext_getElem?
      intro j
      by_cases hj : j < a.length
      · exact hx j hj
      · rw [List.getElem?_eq_none (by omega), List.getElem?_eq_none (by omega)]
  · rintro ⟨sl, hp, bs⟩ ⟨rfl, rfl⟩
    simp -dsimp [hallmarklaw11_sameInts.rs]

def conS (c : Con) : Prop := c.terms.length ≤ 65536 ∧ c.xs.length ≤ 65536 ∧ c.table.length ≤ 65536

theorem light_spec (m : Model) (hm : zModel m) : DP Try.prog hallmarklaw11_light.id [.agg m.cells] fun r => ∃ b, r = .bool b ∧ (b = true → ∀ c ∈ m.cons, conS c) := by
  have hM : (maxLen : Int) ≤ 9223372036854775807 := by decide
  have hS : (maxS : Int) = 17592186044416 := rfl
  have hB : (reachBytes : Int) = 140737488351232 := rfl
  obtain ⟨⟨⟨v1, v2⟩, ⟨c1, c2⟩, g1⟩, z1, z2, z3, z4, z5⟩ := hm
  refine DC.of hallmarklaw11_light.ok (by simp) ?_
  unfold hallmarklaw11_light.ir
  refine vc_cut (At [(1, .ptr 0 1 0 0)] [.mem false [] [m.cells]]) (by simp -dsimp [At, Model.cells, vVars, vCons, vTerms]) ?_
  try clear h
  rintro ⟨sl, hp, bs⟩ ⟨rfl, h⟩
  simp only [sls_cons, sls_one, sls_nil] at h
  refine vc_cut (At [(1, .ptr 0 1 0 0), (3, V.i 0)] [.mem false [] [m.cells]]) (by simp -dsimp [At, h]) ?_
  try clear h
  rintro ⟨sl, hp, bs⟩ ⟨rfl, h⟩
  simp only [sls_cons, sls_one, sls_nil] at h
  refine vc_cut (fun st => ∃ n : Int, 0 ≤ n ∧ n ≤ 100000000000000 ∧ (n ≤ 65536 → ∀ c ∈ m.cons, conS c) ∧ At [(1, .ptr 0 1 0 0), (3, V.i n)] [.mem false [] [m.cells]] st) ?_ ?_
  · refine vc_cut (At [(1, .ptr 0 1 0 0), (3, V.i 0), (4, V.i 0)] [.mem false [] [m.cells]]) (by simp -dsimp [At, h]) ?_
    try clear h
    rintro ⟨sl, hp, bs⟩ ⟨rfl, h⟩
    simp only [sls_cons, sls_one, sls_nil] at h
    refine vc_block_of (vc_upto 1 (by simp) m.cons.length (fun i st => ∃ n : Int, 0 ≤ n ∧ n ≤ 100000000000000 ∧ (n ≤ 65536 → ∀ j c, j < i → m.cons[j]? = some c → conS c) ∧ At [(1, .ptr 0 1 0 0), (3, V.i n), (4, V.i i)] [.mem false [] [m.cells]] st) ⟨0, by omega, by omega, fun _ j c hj => by omega, rfl, by simpa using h⟩ ?_)
    clear h
    rintro i ⟨sl, hp, bs⟩ hi ⟨n, n0, n1, hn2, rfl, h⟩
    simp only [sls_cons, sls_one] at h
    unfold hallmarklaw11_light.b0
    by_cases hil : i < m.cons.length
    · have hw : IntKind.i64.wrap ((i : Int) + 1) = ((i + 1 : Nat) : Int) := by rw [wrap64] <;> omega
      obtain ⟨c, hc⟩ : ∃ c, c = m.cons[i] := ⟨_, rfl⟩
      have hok := z5 _ (List.getElem_mem hil)
      rw [← hc] at hok
      obtain ⟨_, t1, x1, b1, _⟩ := hok
      by_cases hn : n ≤ 65536
      · have w1 : IntKind.i64.wrap (n + c.terms.length) = n + c.terms.length := by rw [wrap64] <;> omega
        have w2 : IntKind.i64.wrap (n + c.terms.length + c.xs.length) = n + c.terms.length + c.xs.length := by rw [wrap64] <;> omega
        have w3 : IntKind.i64.wrap (n + c.terms.length + c.xs.length + c.table.length) = n + c.terms.length + c.xs.length + c.table.length := by rw [wrap64] <;> omega
        refine vc_cut (At [(1, .ptr 0 1 0 0), (3, V.i n), (4, V.i i)] [.mem false [] [m.cells]]) (by simp -dsimp [h, At, hil, hn, Model.cells, vVars, vCons, vTerms]) ?_
        try clear h
        rintro ⟨sl, hp, bs⟩ ⟨rfl, h⟩
        simp only [sls_cons, sls_one, sls_nil] at h
        refine vc_cut (At [(1, .ptr 0 1 0 0), (3, V.i (n + c.terms.length + c.xs.length + c.table.length)), (4, V.i i)] [.mem false [] [m.cells]]) (by simp -dsimp [h, At, hil, ← hc, Model.cells, vVars, vCons, vTerms, Con.cells, vInts, w1, w2, w3]) ?_
        try clear h
        rintro ⟨sl, hp, bs⟩ ⟨rfl, h⟩
        simp only [sls_cons, sls_one, sls_nil] at h
        simp -dsimp [h, At, hw, hil, Model.cells, vVars, vCons, vTerms]
        refine ⟨_, by omega, by omega, fun hle j c' hj hc' => ?_, rfl⟩
        by_cases hji : j = i
        · subst hji
          rw [List.getElem?_eq_getElem hil, ← hc] at hc'
          cases hc'
          exact ⟨by omega, by omega, by omega⟩
        · exact hn2 hn j c' (by omega) hc'
      · simp -dsimp [h, At, hil, hn, Model.cells, vVars, vCons, vTerms]
        exact ⟨n, n0, n1, fun e => absurd e hn, rfl⟩
    · have hil' : i = m.cons.length := by omega
      subst hil'
      simp -dsimp [h, At, Model.cells, vVars, vCons, vTerms]
      refine ⟨n, n0, n1, fun e c hc => ?_, rfl⟩
      obtain ⟨j, hj⟩ := List.getElem?_of_mem hc
      exact hn2 e j c (lt_of_get hj) hj
  rintro ⟨sl, hp, bs⟩ ⟨n, n0, n1, hn2, rfl, h⟩
  simp only [sls_cons, sls_one] at h
  refine vc_cut (fun st => ∃ n : Int, (n ≤ 65536 → ∀ c ∈ m.cons, conS c) ∧ At [(3, V.i n)] [.mem false [] [m.cells]] st) ?_ ?_
  · refine vc_cut (At [(1, .ptr 0 1 0 0), (3, V.i n), (5, V.i 0)] [.mem false [] [m.cells]]) (by simp -dsimp [At, h]) ?_
    try clear h
    rintro ⟨sl, hp, bs⟩ ⟨rfl, h⟩
    simp only [sls_cons, sls_one, sls_nil] at h
    refine vc_block_of (vc_upto 1 (by simp) m.vars.length (fun i st => ∃ n' : Int, n ≤ n' ∧ n' ≤ 300000000000000 ∧ At [(1, .ptr 0 1 0 0), (3, V.i n'), (5, V.i i)] [.mem false [] [m.cells]] st) ⟨n, by omega, by omega, rfl, by simpa using h⟩ ?_)
    clear h
    rintro i ⟨sl, hp, bs⟩ hi ⟨n', n2, n3, rfl, h⟩
    simp only [sls_cons, sls_one] at h
    unfold hallmarklaw11_light.b1
    by_cases hil : i < m.vars.length
    · have hw : IntKind.i64.wrap ((i : Int) + 1) = ((i + 1 : Nat) : Int) := by rw [wrap64] <;> omega
      obtain ⟨c, hc⟩ : ∃ c, c = m.vars[i] := ⟨_, rfl⟩
      have hok := z4 _ (List.getElem_mem hil)
      rw [← hc] at hok
      by_cases hn : n' ≤ 65536
      · have w1 : IntKind.i64.wrap (n' + c.name.size) = n' + c.name.size := by rw [wrap64] <;> omega
        refine vc_cut (At [(1, .ptr 0 1 0 0), (3, V.i n'), (5, V.i i)] [.mem false [] [m.cells]]) (by simp -dsimp [h, At, hil, hn, Model.cells, vVars, vCons, vTerms]) ?_
        try clear h
        rintro ⟨sl, hp, bs⟩ ⟨rfl, h⟩
        simp only [sls_cons, sls_one, sls_nil] at h
        refine vc_cut (At [(1, .ptr 0 1 0 0), (3, V.i (n' + c.name.size)), (5, V.i i)] [.mem false [] [m.cells]]) (by simp -dsimp [h, At, hil, ← hc, Model.cells, vVars, vCons, vTerms, Var.cells, w1]) ?_
        try clear h
        rintro ⟨sl, hp, bs⟩ ⟨rfl, h⟩
        simp only [sls_cons, sls_one, sls_nil] at h
        simp -dsimp [h, At, hw, hil, Model.cells, vVars, vCons, vTerms]
        omega
      · simp -dsimp [h, At, hil, hn, Model.cells, vVars, vCons, vTerms]
    · have hil' : i = m.vars.length := by omega
      subst hil'
      simp -dsimp [h, At, Model.cells, vVars, vCons, vTerms]
      exact fun e => hn2 (by omega)
  rintro ⟨sl, hp, bs⟩ ⟨n, hn, rfl, h⟩
  simp only [sls_cons, sls_one] at h
  simp -dsimp [h, hallmarklaw11_light.rs]
  exact hn
end Go.Abs.G

namespace Go.Abs.G
open Go.Proofs
set_option linter.unusedVariables false
set_option linter.unusedSimpArgs false

structure DOp where
  kind : Int
  ck : Int
  cx : Int
  cv : Int
  n : Int
structure DCut where
  k : Int
  x : Int
  v : Int
def DOp.cells (o : DOp) : List V := [V.i o.kind, V.i o.ck, V.i o.cx, V.i o.cv, V.i o.n]
def DCut.cells (c : DCut) : List V := [V.i c.k, V.i c.x, V.i c.v]
def vOps (l : List DOp) : V := .view 5 (l.map DOp.cells)
def vCuts (l : List DCut) : V := .view 3 (l.map DCut.cells)

structure SG (s : List Dom) (ms : List (List Dom)) : Prop extends SOk s ms where
  L : ∀ L ∈ ms, L.length ≤ 64 ∧ ∀ d ∈ L, d.ok

theorem cutS_cases (s : List Dom) (k x v : Int) : (cutS s k x v).1 = s ∨ ∃ d, s[x.toNat]? = some d ∧ (cutS s k x v).1 = s.set x.toNat (cutTo k v d d.width) := by
  unfold cutS
  split
  · split
    · next d e => split
                  · exact .inl rfl
                  · exact .inr ⟨d, e, rfl⟩
    · exact .inl rfl
  · exact .inl rfl
theorem cutS_len (s : List Dom) (k x v : Int) : (cutS s k x v).1.length = s.length := by
  rcases cutS_cases s k x v with e | ⟨d, _, e⟩ <;> rw [e]; simp
theorem cutS_ok {s : List Dom} (k x v : Int) (h : ∀ d ∈ s, d.ok) : ∀ d ∈ (cutS s k x v).1, d.ok := by
  rcases cutS_cases s k x v with e | ⟨d, hd, e⟩ <;> rw [e]
  · exact h
  · intro d' hd'
    rcases List.mem_or_eq_of_mem_set hd' with h' | rfl
    · exact h d' h'
    · exact cutTo_ok k v (h d (List.mem_of_getElem? hd)) _
theorem SG.cut {s : List Dom} {ms : List (List Dom)} (h : SG s ms) (k x v : Int) : SG (cutS s k x v).1 ms :=
  ⟨⟨by rw [cutS_len]; exact h.n, h.k, cutS_ok k x v h.d⟩, h.L⟩

structure Small (m : Model) : Prop where
  v : m.vars.length ≤ 300
  c : m.cons.length ≤ 300
  g : m.goal.length ≤ 300
  e : ∀ c ∈ m.cons, conS c
theorem small_spec (m : Model) (l : List DOp) (hm : zModel m) : DP Try.prog hallmarklaw11_small.id [.agg m.cells, vOps l] fun r => ∃ b, r = .bool b ∧ (b = true → Small m ∧ l.length ≤ 300) := by
  refine DC.of hallmarklaw11_small.ok (by simp) ?_
  unfold hallmarklaw11_small.ir
  refine vc_cut (At [(1, vOps l), (2, .ptr 0 1 0 0)] [.mem false [] [m.cells]]) (by simp -dsimp [At, Model.cells, vVars, vCons, vTerms]) ?_
  try clear h
  rintro ⟨sl, hp, bs⟩ ⟨rfl, h⟩
  simp only [sls_cons, sls_one, sls_nil] at h
  by_cases h1 : m.vars.length ≤ 300
  · have h1' : (m.vars.length : Int) ≤ 300 := by omega
    by_cases h2 : m.cons.length ≤ 300
    · have h2' : (m.cons.length : Int) ≤ 300 := by omega
      by_cases h3 : m.goal.length ≤ 300
      · have h3' : (m.goal.length : Int) ≤ 300 := by omega
        simp -dsimp [h, h1, h2, h3, h1', h2', h3', Model.cells, vVars, vCons, vTerms]
        refine gcall_gen (light_spec m hm) (by simp -dsimp [h, Model.cells, vVars, vCons, vTerms]) (by simp [Model.cells, vVars, vCons, vTerms]) ?_
        rintro r ⟨b, rfl, hb⟩
        cases b
        · simp -dsimp [h, hallmarklaw11_small.rs, Model.cells, vVars, vCons, vTerms]
        · by_cases h4 : l.length ≤ 300
          · have h4' : (l.length : Int) ≤ 300 := by omega
            simp -dsimp [h, hallmarklaw11_small.rs, h1, h4, h4', vOps]
            exact ⟨h1, h2, h3, hb rfl⟩
          · have h4' : ¬ (l.length : Int) ≤ 300 := by omega
            simp -dsimp [h, hallmarklaw11_small.rs, h1, h4, h4', vOps]
      · have h3' : ¬ (m.goal.length : Int) ≤ 300 := by omega
        simp -dsimp [h, h1, h2, h3, h1', h2', h3', hallmarklaw11_small.rs, Model.cells, vVars, vCons, vTerms]
    · have h2' : ¬ (m.cons.length : Int) ≤ 300 := by omega
      simp -dsimp [h, h1, h2, h1', h2', hallmarklaw11_small.rs, Model.cells, vVars, vCons, vTerms]
  · have h1' : ¬ (m.vars.length : Int) ≤ 300 := by omega
    simp -dsimp [h, h1, h1', hallmarklaw11_small.rs, Model.cells, vVars, vCons, vTerms]

def cutsB : List Dom → List DCut → List Dom × Bool
  | s, [] => (s, true)
  | s, c :: l => if (cutS s c.k c.x c.v).2.2 then cutsB (cutS s c.k c.x c.v).1 l else ((cutS s c.k c.x c.v).1, false)

theorem cuts_spec {s : List Dom} {ms : List (List Dom)} (hs : SG s ms) (l : List DCut) (hl : l.length ≤ maxLen) :
    DC Try.prog hallmarklaw11_cuts.id [.ptr 0 1 0 0, vCuts l] [St1 s (mT ms)] (fun r H => r = .bool (cutsB s l).2 ∧ H = [St1 (cutsB s l).1 (mT ms)]) := by
  have hM : (maxLen : Int) ≤ 9223372036854775807 := by decide
  refine DC.of hallmarklaw11_cuts.ok (by simp) ?_
  unfold hallmarklaw11_cuts.ir
  refine vc_cut (At [(0, .ptr 0 1 0 0), (1, vCuts l)] [St1 s (mT ms)]) (by simp -dsimp [At]) ?_
  try clear h
  rintro ⟨sl, hp, bs⟩ ⟨rfl, h⟩
  simp only [sls_cons, sls_one, sls_nil] at h
  refine vc_cut (fun st => (cutsB s l).2 = true ∧ st.hp = [St1 (cutsB s l).1 (mT ms)]) ?_ ?_
  · refine vc_cut (At [(0, .ptr 0 1 0 0), (1, vCuts l), (5, V.i 0)] [St1 s (mT ms)]) (by simp -dsimp [h, At]) ?_
    try clear h
    rintro ⟨sl, hp, bs⟩ ⟨rfl, h⟩
    simp only [sls_cons, sls_one, sls_nil] at h
    refine vc_block_of (vc_upto 1 (by simp) l.length (fun i st => ∃ s', SG s' ms ∧ cutsB s l = cutsB s' (l.drop i) ∧ At [(0, .ptr 0 1 0 0), (1, vCuts l), (5, V.i i)] [St1 s' (mT ms)] st) ⟨s, hs, by simp, rfl, by simpa using h⟩ ?_)
    clear h
    rintro i ⟨sl, hp, bs⟩ hi ⟨s', hs', he, rfl, h⟩
    simp only [sls_cons, sls_one] at h
    unfold hallmarklaw11_cuts.b0
    by_cases hil : i < l.length
    · have hw : IntKind.i64.wrap ((i : Int) + 1) = ((i + 1 : Nat) : Int) := by rw [wrap64] <;> omega
      obtain ⟨c, hc⟩ : ∃ c, c = l[i] := ⟨_, rfl⟩
      have hd : l.drop i = c :: l.drop (i + 1) := by rw [hc]; exact List.drop_eq_getElem_cons hil
      refine vc_cut (At [(0, .ptr 0 1 0 0), (1, vCuts l), (5, V.i i)] [St1 s' (mT ms)]) (by simp -dsimp [h, At, hil, vCuts]) ?_
      try clear h
      rintro ⟨sl, hp, bs⟩ ⟨rfl, h⟩
      simp only [sls_cons, sls_one, sls_nil] at h
      refine vc_cut (fun st => (cutS s' c.k c.x c.v).2.2 = true ∧ At [(0, .ptr 0 1 0 0), (1, vCuts l), (5, V.i i)] [St1 (cutS s' c.k c.x c.v).1 (mT ms)] st) ?_ ?_
      · refine vc_block_of ?_
        simp -dsimp [h, hil, vCuts, ← hc, DCut.cells]
        refine gcallm1 (cutP hs'.toSOk c.k c.x c.v) 0 (by simp -dsimp [h, addAll]) (by simp -dsimp [h]) (by simp) (by simp) (by simp) (by simp -dsimp [h, idx]) (by simp) ?_
        cases hok : (cutS s' c.k c.x c.v).2.2
        · simp -dsimp [h, hok, hallmarklaw11_cuts.rs, he, hd, cutsB]
        · simp -dsimp [h, hok, At]
      try clear h
      rintro ⟨sl, hp, bs⟩ ⟨hok, rfl, h⟩
      simp only [sls_cons, sls_one, sls_nil] at h
      simp -dsimp [h, At, hw, hil, vCuts]
      exact ⟨_, hs'.cut c.k c.x c.v, by rw [he, hd, cutsB, if_pos hok], rfl⟩
    · have hil' : i = l.length := by omega
      subst hil'
      simp -dsimp [h, vCuts]
      rw [he]
      simp [cutsB]
  · rintro ⟨sl, hp, bs⟩ ⟨h1, rfl⟩
    simp -dsimp [hallmarklaw11_cuts.rs, h1]

def doesB (p : List Dom × List (List Dom)) (o : DOp) (least : Int) : List Dom × List (List Dom) :=
  if o.kind = 1 then ((cutS p.1 o.ck o.cx o.cv).1, p.2) else if o.kind = 2 then (p.1, p.2 ++ [p.1]) else if o.kind = 3 then
    if least ≤ o.n then match (if 0 ≤ o.n then p.2[o.n.toNat]? else none) with
      | some L => (L, p.2.take o.n.toNat)
      | none => p
    else p
  else p

theorem does_spec {s : List Dom} {ms : List (List Dom)} (hs : SG s ms) (o : DOp) (least : Int) :
    DC Try.prog hallmarklaw11_does.id [.ptr 0 1 0 0, .agg o.cells, V.i least] [St1 s (mT ms)] (fun r H => r = .tup [] ∧ H = [St1 (doesB (s, ms) o least).1 (mT (doesB (s, ms) o least).2)]) := by
  refine DC.picks (Q := fun r H => r = .tup [] ∧ ∃ E, H = St1 (doesB (s, ms) o least).1 (mT (doesB (s, ms) o least).2) :: E) ?_ ?_
  rotate_left
  · rintro r H ⟨rfl, E, rfl⟩
    exact ⟨[0], okSel_one rfl (St1_clo _ _), by simp, by simp, by simp, sub_one rfl (St1_clo _ _)⟩
  refine DC.of hallmarklaw11_does.ok (by simp) ?_
  unfold hallmarklaw11_does.ir
  refine vc_cut (At [(0, .ptr 0 1 0 0), (2, V.i least), (4, .ptr 1 1 0 0)] [St1 s (mT ms), .mem false [] [o.cells]]) (by simp -dsimp [At, DOp.cells]) ?_
  try clear h
  rintro ⟨sl, hp, bs⟩ ⟨rfl, h⟩
  simp only [sls_cons, sls_one, sls_nil] at h
  refine vc_cut (At [(0, .ptr 0 1 0 0), (2, V.i least), (4, .ptr 1 1 0 0), (7, V.i o.kind)] [St1 s (mT ms), .mem false [] [o.cells]]) (by simp -dsimp [h, At, DOp.cells]) ?_
  try clear h
  rintro ⟨sl, hp, bs⟩ ⟨rfl, h⟩
  simp only [sls_cons, sls_one, sls_nil] at h
  by_cases k1 : o.kind = 1
  · simp -dsimp [h, k1, DOp.cells]
    refine gcallm1 (cutP hs.toSOk o.ck o.cx o.cv) 0 (by simp -dsimp [h, addAll]) (by simp -dsimp [h]) (by simp) (by simp) (by simp) (by simp -dsimp [h, idx]) (by simp) ?_
    simp -dsimp [h]
    simp -dsimp [hallmarklaw11_does.rs, doesB, k1]
  · by_cases k2 : o.kind = 2
    · simp -dsimp [h, k1, k2, DOp.cells]
      refine gcallm1 (mark_packed hs.n hs.k) 0 (by simp -dsimp [h, addAll]) (by simp -dsimp [h]) (by simp) (by simp) (by simp) (by simp -dsimp [h, idx]) (by simp) ?_
      simp -dsimp [h]
      simp -dsimp [hallmarklaw11_does.rs, doesB, k1, k2]
    · by_cases k3 : o.kind = 3
      · by_cases hl : least ≤ o.n
        · simp -dsimp [h, k1, k2, k3, hl, DOp.cells]
          by_cases h0 : 0 ≤ o.n ∧ o.n < ms.length
          · obtain ⟨n, hn⟩ : ∃ n : Nat, o.n = n := Int.eq_ofNat_of_zero_le h0.1
            have hnl : n < ms.length := by omega
            have hg : ms[n]? = some ms[n] := List.getElem?_eq_getElem hnl
            have hb := back_yes (s := s) hs.k hg
            rw [← hn] at hb
            refine gcallm1 (hb) 0 (by simp -dsimp [h, addAll]) (by simp -dsimp [h]) (by simp) (by simp) (by simp) (by simp -dsimp [h, idx]) (by simp) ?_
            simp -dsimp [h]
            rw [hn] at hl
            simp -dsimp [hallmarklaw11_does.rs, doesB, k1, k2, k3, hl, hn, hnl]
          · have hnone : (if 0 ≤ o.n then ms[o.n.toNat]? else none) = none := by
              split
              · rw [List.getElem?_eq_none]; omega
              · rfl
            refine gcallm1 (back_no (s := s) hs.k o.n h0) 0 (by simp -dsimp [h, addAll]) (by simp -dsimp [h]) (by simp) (by simp) (by simp) (by simp -dsimp [h, idx]) (by simp) ?_
            simp -dsimp [h]
            simp -dsimp [hallmarklaw11_does.rs, doesB, k1, k2, k3, hl, hnone]
        · simp -dsimp [h, k1, k2, k3, hl, DOp.cells, hallmarklaw11_does.rs, doesB]
      · simp -dsimp [h, k1, k2, k3, DOp.cells, hallmarklaw11_does.rs, doesB]
end Go.Abs.G

namespace Go.Abs.G
open Go.Proofs
set_option linter.unusedVariables false
set_option linter.unusedSimpArgs false

def okCut (c : DCut) : Prop := I64 c.k ∧ I64 c.x ∧ I64 c.v
def zCuts (l : List DCut) : Prop := l.length ≤ maxLen ∧ l.length ≤ maxS ∧ ∀ c ∈ l, okCut c
def okOp (o : DOp) : Prop := I64 o.kind ∧ I64 o.ck ∧ I64 o.cx ∧ I64 o.cv ∧ I64 o.n
def zOps (l : List DOp) : Prop := l.length ≤ maxLen ∧ l.length ≤ maxS ∧ ∀ c ∈ l, okOp c

structure CTypes (P : Program) (tInt tCut tCuts : TypeId) : Prop where
  bytes : 8 ≤ P.bytesOf tCut
  int : P.underlying tInt = some (.int .i64) ∧ P.cellsOf tInt = 1
  cut : ∃ fs, P.underlying tCut = some (.struct fs) ∧ P.cellsOf tCut = 3 ∧ fs.toList.map (fun f => (f.type, f.offset)) = [(tInt, 0), (tInt, 1), (tInt, 2)]
  cuts : P.underlying tCuts = some (.slice tCut) ∧ P.cellsOf tCuts = 1
structure OTypes (P : Program) (tInt tCut tOp tOps : TypeId) : Prop where
  bytes : 8 ≤ P.bytesOf tOp
  int : P.underlying tInt = some (.int .i64) ∧ P.cellsOf tInt = 1
  cut : ∃ fs, P.underlying tCut = some (.struct fs) ∧ P.cellsOf tCut = 3 ∧ fs.toList.map (fun f => (f.type, f.offset)) = [(tInt, 0), (tInt, 1), (tInt, 2)]
  op : ∃ fs, P.underlying tOp = some (.struct fs) ∧ P.cellsOf tOp = 5 ∧ fs.toList.map (fun f => (f.type, f.offset)) = [(tInt, 0), (tCut, 1), (tInt, 4)]
  ops : P.underlying tOps = some (.slice tOp) ∧ P.cellsOf tOps = 1

theorem rdI {P : Program} {t : TypeId} (h : P.underlying t = some (.int .i64) ∧ P.cellsOf t = 1) : Rd P t 1 (fun n : Int => [V.i n]) I64 :=
  (Rd.int h.1 h.2).map fun n h => ⟨n, by
    have : (decide (IntKind.i64.min ≤ n) && decide (n ≤ IntKind.i64.max)) = true := h
    simp only [Bool.and_eq_true, decide_eq_true_eq] at this
    exact ⟨this.1, this.2⟩, rfl⟩
theorem rdCut {P : Program} {tInt tCut : TypeId} (hi : P.underlying tInt = some (.int .i64) ∧ P.cellsOf tInt = 1)
    (hc : ∃ fs, P.underlying tCut = some (.struct fs) ∧ P.cellsOf tCut = 3 ∧ fs.toList.map (fun f => (f.type, f.offset)) = [(tInt, 0), (tInt, 1), (tInt, 2)]) : Rd P tCut 3 DCut.cells okCut := by
  obtain ⟨fs, h1, h2, h3⟩ := hc
  refine (Rd.struct h1 h2 (RdF.of_map (fs := [fl tInt 0, fl tInt 1, fl tInt 2]) (.cons rfl (rdI hi) (.cons rfl (rdI hi) (.cons rfl (rdI hi) .nil))) h3)).map fun x h => ?_
  exact ⟨⟨x.1, x.2.1, x.2.2.1⟩, ⟨h.1, h.2.1, h.2.2.1⟩, rfl⟩
theorem CTypes.rdCuts {P : Program} {tInt tCut tCuts : TypeId} (M : CTypes P tInt tCut tCuts) : Rd P tCuts 1 (fun l : List DCut => [vCuts l]) zCuts :=
  (Rd.slice M.cuts.1 M.cuts.2 (by omega) (rdCut M.int M.cut)).map fun l h => ⟨l, ⟨h.1, maxS_of h.2.1 M.bytes, h.2.2⟩, rfl⟩
theorem OTypes.rdOps {P : Program} {tInt tCut tOp tOps : TypeId} (M : OTypes P tInt tCut tOp tOps) : Rd P tOps 1 (fun l : List DOp => [vOps l]) zOps := by
  obtain ⟨fs, h1, h2, h3⟩ := M.op
  have rdOp : Rd P tOp 5 DOp.cells okOp := by
    refine (Rd.struct h1 h2 (RdF.of_map (fs := [fl tInt 0, fl tCut 1, fl tInt 4]) (.cons rfl (rdI M.int) (.cons rfl (rdCut M.int M.cut) (.cons rfl (rdI M.int) .nil))) h3)).map fun x h => ?_
    exact ⟨⟨x.1, x.2.1.k, x.2.1.x, x.2.1.v, x.2.2.1⟩, ⟨h.1, h.2.1.1, h.2.1.2.1, h.2.1.2.2, h.2.2.1⟩, rfl⟩
  exact (Rd.slice M.ops.1 M.ops.2 (by omega) rdOp).map fun l h => ⟨l, ⟨h.1, maxS_of h.2.1 M.bytes, h.2.2⟩, rfl⟩
end Go.Abs.G

namespace Go.Abs.G
open Go.Proofs
set_option linter.unusedVariables false
set_option linter.unusedSimpArgs false

theorem drop_has {d : Dom} (h : d.ok) {k i : Nat} (hk : k < 64) (hi : i < 64) : (d.drop k).has i = (d.has i && !decide (i = k)) := by
  unfold Dom.drop Dom.has
  by_cases h1 : k < 32
  · rw [if_pos h1]
    by_cases h2 : i < 32
    · simp only [h2, if_true]; exact clr_bit h.a h1 i
    · simp only [h2, if_false]
      have : i ≠ k := by omega
      simp [this]
  · rw [if_neg h1]
    by_cases h2 : i < 32
    · simp only [h2, if_true]
      have : i ≠ k := by omega
      simp [this]
    · simp only [h2, if_false]
      rw [clr_bit h.b (by omega)]
      have : (i - 32 = k - 32) ↔ i = k := by omega
      simp [this]

theorem cutTo_has (k v : Int) {d : Dom} (h : d.ok) : ∀ n, n ≤ 64 → ∀ i, i < 64 → (cutTo k v d n).has i = (d.has i && !(decide (i < n) && goesB k v (d.from' + i))) := by
  intro n
  induction n with
  | zero => intro _ i _; simp [cutTo]
  | succ n ih =>
    intro hn i hi
    have ih := ih (by omega) i hi
    unfold cutTo
    have hin : i < n + 1 ↔ (i < n ∨ i = n) := by omega
    split
    · next hg =>
      rw [drop_has (cutTo_ok k v h n) (by omega) hi, ih]
      by_cases hi2 : i = n
      · subst hi2; simp [hg]
      · have : decide (i < n + 1) = decide (i < n) := by simp; omega
        simp [hi2, this]
    · next hg =>
      rw [ih]
      by_cases hi2 : i = n
      · subst hi2
        have : goesB k v (d.from' + i) = false := by simpa using hg
        simp [this]
      · have : decide (i < n + 1) = decide (i < n) := by simp; omega
        rw [this]

theorem cutS_get {s : List Dom} {k x v : Int} (hyes : (cutS s k x v).2.2 = true) (y : Nat) (d : Dom) (hd : s[y]? = some d) : (cutS s k x v).1[y]? = some (if (y : Int) = x then cutTo k v d d.width else d) := by
  have hy := lt_of_get hd
  unfold cutS at hyes ⊢
  by_cases hb : isB s x = true
  · rw [if_pos hb] at hyes ⊢
    simp only [isB, Bool.and_eq_true, decide_eq_true_eq] at hb
    have hx : x.toNat < s.length := by omega
    rw [List.getElem?_eq_getElem hx] at hyes ⊢
    simp only at hyes ⊢
    split
    · next hn => rw [if_pos hn] at hyes; cases hyes
    · by_cases hyx : (y : Int) = x
      · have : x.toNat = y := by omega
        rw [if_pos hyx]
        simp only [this]
        rw [List.getElem?_set_self hy]
        have : s[y] = d := by rw [List.getElem?_eq_getElem hy] at hd; exact Option.some.inj hd
        rw [this]
      · rw [if_neg hyx]
        simp only
        rw [getElem?_set_ne' (by omega)]; exact hd
  · rw [if_neg hb]
    have hyx : ¬ (y : Int) = x := by
      intro e
      simp only [isB, Bool.and_eq_true, decide_eq_true_eq] at hb
      omega
    rw [if_neg hyx]; exact hd

structure After (d d' : Dom) (P : Int → Bool) : Prop where
  f : d'.from' = d.from'
  w : d'.width = d.width
  h : ∀ i, i < d.width → d'.has i = (d.has i && !P (d.from' + i))
def gone (l : List DCut) (y : Nat) (u : Int) : Bool := l.any fun c => decide (c.x = (y : Int)) && goesB c.k c.v u

theorem cuts_after : ∀ (l : List DCut) (s : List Dom), (∀ d ∈ s, d.ok) → (cutsB s l).2 = true → (cutsB s l).1.length = s.length ∧ (∀ d ∈ (cutsB s l).1, d.ok) ∧ ∀ (y : Nat) (d : Dom), s[y]? = some d → ∃ d', (cutsB s l).1[y]? = some d' ∧ After d d' (gone l y)
  | [], s, hok, _ => ⟨rfl, hok, fun y d hd => ⟨d, hd, rfl, rfl, fun i _ => by simp [gone]⟩⟩
  | c :: l, s, hok, h => by
    unfold cutsB at h ⊢
    split at h
    · next hyes =>
      rw [if_pos hyes]
      obtain ⟨h1, h2, h3⟩ := cuts_after l _ (cutS_ok c.k c.x c.v hok) h
      refine ⟨h1.trans (cutS_len _ _ _ _), h2, fun y d hd => ?_⟩
      have hg := cutS_get hyes y d hd
      have hdo := hok d (List.mem_of_getElem? hd)
      obtain ⟨d', g1, g2⟩ := h3 y _ hg
      refine ⟨d', g1, ?_, ?_, fun i hi => ?_⟩
      · rw [g2.f]; split
        · exact cutTo_from _ _ _ _
        · rfl
      · rw [g2.w]; split
        · exact cutTo_width _ _ _ _
        · rfl
      · have hw := hdo.w
        by_cases hyx : (y : Int) = c.x
        · have e := g2.h i
          rw [if_pos hyx, cutTo_from, cutTo_width] at e
          rw [e hi, cutTo_has c.k c.v hdo d.width hw i (by omega)]
          simp [gone, hyx.symm, hi, Bool.and_assoc]
        · have e := g2.h i
          rw [if_neg hyx] at e
          rw [e hi]
          have : ¬ c.x = (y : Int) := fun e => hyx e.symm
          simp [gone, this]
    · cases h

theorem clr_same {a j : Nat} (ha : a < 4294967296) (hj : j < 32) (h : a.testBit j = false) : clr a j = a := by
  refine Nat.eq_of_testBit_eq fun i => ?_
  rw [clr_bit ha hj]
  by_cases hij : i = j
  · subst hij; simp [h]
  · simp [hij]
theorem drop_same {d : Dom} (hd : d.ok) {k : Nat} (hk : k < 64) (h : d.has k = false) : d.drop k = d := by
  unfold Dom.drop
  unfold Dom.has at h
  split
  · next h1 =>
    rw [if_pos h1] at h
    rw [clr_same hd.a h1 h]
  · next h1 =>
    rw [if_neg h1] at h
    rw [clr_same hd.b (by omega) h]
theorem cutTo_same (k v : Int) {d : Dom} (hd : d.ok) : ∀ n, n ≤ 64 → (∀ i : Nat, i < n → goesB k v (d.from' + i) = true → d.has i = false) → cutTo k v d n = d := by
  intro n
  induction n with
  | zero => intro _ _; rfl
  | succ n ih =>
    intro hn h
    have ih := ih (by omega) fun i hi => h i (by omega)
    unfold cutTo
    rw [ih]
    split
    · next hg => exact drop_same hd (by omega) (h n (by omega) hg)
    · rfl

def NE (s : List Dom) : Prop := ∀ d ∈ s, d.none = false
theorem cuts_again : ∀ (l : List DCut) (s : List Dom), (∀ d ∈ s, d.ok) → NE s → (∀ c ∈ l, ∀ (y : Nat) (d : Dom), s[y]? = some d → c.x = (y : Int) → ∀ i : Nat, i < d.width → goesB c.k c.v (d.from' + i) = true → d.has i = false) → cutsB s l = (s, true)
  | [], s, _, _, _ => rfl
  | c :: l, s, hok, hne, h => by
    have e : cutS s c.k c.x c.v = (s, false, true) := by
      unfold cutS
      split
      · next hb =>
        simp only [isB, Bool.and_eq_true, decide_eq_true_eq] at hb
        have hx : c.x.toNat < s.length := by omega
        rw [List.getElem?_eq_getElem hx]
        simp only
        have hdo := hok _ (List.getElem_mem hx)
        have hs := cutTo_same c.k c.v hdo s[c.x.toNat].width hdo.w (fun i hi hg => h c (by simp) c.x.toNat _ (List.getElem?_eq_getElem hx) (by omega) i hi hg)
        rw [hs, if_neg (by rw [hne _ (List.getElem_mem hx)]; simp), List.set_getElem_self]
        simp [Dom.same]
      · rfl
    unfold cutsB
    rw [e]
    exact cuts_again l s hok hne fun c' hc' => h c' (by simp [hc'])

theorem NE.cut {s : List Dom} (h : NE s) (k x v : Int) : NE (cutS s k x v).1 := by
  unfold cutS
  split
  · split
    · next d e =>
      split
      · exact h
      · next hn =>
        intro d' hd'
        rcases List.mem_or_eq_of_mem_set hd' with h' | rfl
        · exact h d' h'
        · simpa using hn
    · exact h
  · exact h
theorem NE.cuts : ∀ (l : List DCut) {s : List Dom}, NE s → NE (cutsB s l).1
  | [], s, h => h
  | c :: l, s, h => by
    unfold cutsB
    split
    · exact NE.cuts l (h.cut _ _ _)
    · exact h.cut _ _ _

theorem add_has {d : Dom} (h : d.ok) {k i : Nat} (hk : k < 64) (hi : i < 64) : (d.add k).has i = (d.has i || decide (i = k)) := by
  unfold Dom.add Dom.has
  by_cases h1 : k < 32
  · rw [if_pos h1]
    by_cases h2 : i < 32
    · simp only [h2, if_true]; exact sett_bit h.a h1 i
    · simp only [h2, if_false]
      have : i ≠ k := by omega
      simp [this]
  · rw [if_neg h1]
    by_cases h2 : i < 32
    · simp only [h2, if_true]
      have : i ≠ k := by omega
      simp [this]
    · simp only [h2, if_false]
      rw [sett_bit h.b (by omega)]
      have : (i - 32 = k - 32) ↔ i = k := by omega
      simp [this]
theorem fillTo_has {d : Dom} (h : d.ok) : ∀ n, n ≤ 64 → ∀ i, i < 64 → (fillTo d n).has i = (d.has i || decide (i < n)) := by
  intro n
  induction n with
  | zero => intro _ i _; simp [fillTo]
  | succ n ih =>
    intro hn i hi
    have ih := ih (by omega) i hi
    unfold fillTo
    rw [add_has (fillTo_ok h n) (by omega) hi, ih]
    by_cases h1 : i = n
    · subst h1; simp
    · have : decide (i < n + 1) = decide (i < n) := by simp; omega
      simp [h1, this]
theorem domOf_from (v : Var) : (domOf v).from' = v.lo := fillTo_from _ _
theorem domOf_width (v : Var) : (domOf v).width = (v.hi - v.lo + 1).toNat := fillTo_width _ _
theorem domOf_has {v : Var} (h : VarOk v) {i : Nat} (hi : i < (domOf v).width) : (domOf v).has i = true := by
  have hok := dom0_ok h
  have hw := hok.w
  rw [domOf_width] at hi
  have hi' : i < (dom0 v).width := hi
  unfold domOf
  rw [fillTo_has hok _ hw i (by omega)]
  simp [hi']
theorem none_of_has {d : Dom} {i : Nat} (h : d.has i = true) : d.none = false := by
  unfold Dom.none
  unfold Dom.has at h
  split at h
  · have : d.a ≠ 0 := fun e => by rw [e] at h; simp at h
    simp [this]
  · have : d.b ≠ 0 := fun e => by rw [e] at h; simp at h
    simp [this]

theorem vals_eq {d d' : Dom} (hf : d'.from' = d.from') (hw : d'.width = d.width) (hh : ∀ i, i < d.width → d'.has i = d.has i) : d'.vals d'.width = d.vals d.width := by
  unfold Dom.vals
  rw [hw, hf]
  congr 1
  refine List.filter_congr fun i hi => ?_
  exact hh i (List.mem_range.1 hi)

theorem sameB_of {s t : List Dom} (hl : s.length = t.length) (h : ∀ (y : Nat) (d d' : Dom), s[y]? = some d → t[y]? = some d' → d.from' = d'.from' ∧ d.width = d'.width ∧ ∀ i, i < d'.width → d.has i = d'.has i) : sameB s t = true := by
  simp only [sameB, hl, decide_true, Bool.true_and, List.all_eq_true, List.mem_range, decide_eq_true_eq]
  intro y hy
  have h1 : s[y]? = some s[y] := List.getElem?_eq_getElem (by omega)
  have h2 : t[y]? = some t[y] := List.getElem?_eq_getElem hy
  obtain ⟨e1, e2, e3⟩ := h y _ _ h1 h2
  have b1 : isB s (y : Int) = true := by simp [isB]; omega
  have b2 : isB t (y : Int) = true := by simp [isB]; omega
  simp only [valsB, b1, b2, if_true, Int.toNat_natCast, h1, h2, Option.map_some, Option.getD_some]
  exact vals_eq e1 e2 e3

/-- Cuts in any order, and once more. -/
theorem order_math {s : List Dom} {l l2 : List DCut} (hok : ∀ d ∈ s, d.ok) (hne : NE s) (hl : ∀ c, c ∈ l ↔ c ∈ l2) (h1 : (cutsB s l).2 = true) (h2 : (cutsB s l2).2 = true) :
    sameB (cutsB s l).1 (cutsB s l2).1 = true ∧ cutsB (cutsB s l).1 l = ((cutsB s l).1, true) := by
  obtain ⟨a1, a2, a3⟩ := cuts_after l s hok h1
  obtain ⟨b1, b2, b3⟩ := cuts_after l2 s hok h2
  have hg : ∀ y u, gone l y u = gone l2 y u := fun y u => by
    unfold gone
    rw [Bool.eq_iff_iff, List.any_eq_true, List.any_eq_true]
    exact ⟨fun ⟨c, hc, e⟩ => ⟨c, (hl c).1 hc, e⟩, fun ⟨c, hc, e⟩ => ⟨c, (hl c).2 hc, e⟩⟩
  refine ⟨sameB_of (a1.trans b1.symm) fun y d d' hd hd' => ?_, cuts_again l _ a2 (NE.cuts l hne) fun c hc y d hd hx i hi hgo => ?_⟩
  · have hy : y < s.length := by rw [← a1]; exact lt_of_get hd
    obtain ⟨e, e1, e2⟩ := a3 y _ (List.getElem?_eq_getElem hy)
    obtain ⟨f, f1, f2⟩ := b3 y _ (List.getElem?_eq_getElem hy)
    rw [hd] at e1; cases e1
    rw [hd'] at f1; cases f1
    exact ⟨e2.f.trans f2.f.symm, e2.w.trans f2.w.symm, fun i hi => by rw [f2.w] at hi; rw [e2.h i hi, f2.h i hi, hg]⟩
  · have hy : y < s.length := by rw [← a1]; exact lt_of_get hd
    obtain ⟨e, e1, e2⟩ := a3 y _ (List.getElem?_eq_getElem hy)
    rw [hd] at e1; cases e1
    rw [e2.w] at hi
    rw [e2.h i hi]
    rw [e2.f] at hgo
    have : gone l y (s[y].from' + i) = true := List.any_eq_true.2 ⟨c, hc, by simp [hx, hgo]⟩
    simp [this]

theorem doms_ne (m : Model) : NE (domsOf m) := by
  unfold domsOf
  split
  · next hz =>
    have hR : Right m := right_iff.1 (by simp [rightB, hz])
    intro d hd
    obtain ⟨v, hv, rfl⟩ := List.mem_map.1 hd
    obtain ⟨i, hi⟩ := List.getElem?_of_mem hv
    have hvo := VarOk.of (hR.var i v hi)
    refine none_of_has (i := 0) (domOf_has hvo ?_)
    rw [domOf_width]
    have := hvo.le
    omega
  · intro d hd; cases hd

/-- What is there behind cuts. -/
theorem order_has {m : Model} {l : List DCut} (hok : ∀ d ∈ domsOf m, d.ok) (h1 : (cutsB (domsOf m) l).2 = true) {x : Nat} (hx : x < (domsOf m).length) {w : Int} (hx2 : x < m.vars.length) (hw : m.vars[x].lo ≤ w ∧ w ≤ m.vars[x].hi) :
    hasB (cutsB (domsOf m) l).1 x w = !gone l x w := by
  obtain ⟨a1, a2, a3⟩ := cuts_after l (domsOf m) hok h1
  have hd : domsOf m = m.vars.map domOf := by
    unfold domsOf at hx ⊢
    split
    · rfl
    · next hz => rw [if_neg hz] at hx; simp at hx
  have hz : (checkB m).2 = 0 := by
    unfold domsOf at hx
    split at hx
    · next hz => exact hz
    · simp at hx
  have hR : Right m := right_iff.1 (by simp [rightB, hz])
  have hvo := VarOk.of (hR.var x _ (List.getElem?_eq_getElem hx2))
  have hg : (domsOf m)[x]? = some (domOf m.vars[x]) := by rw [hd, List.getElem?_map, List.getElem?_eq_getElem hx2]; rfl
  obtain ⟨d', e1, e2⟩ := a3 x _ hg
  have f := e2.f
  have g := e2.w
  rw [domOf_from] at f
  rw [domOf_width] at g
  obtain ⟨i, hi⟩ : ∃ i : Nat, w - m.vars[x].lo = i := Int.eq_ofNat_of_zero_le (show 0 ≤ w - m.vars[x].lo by omega)
  have hil : i < (domOf m.vars[x]).width := by rw [domOf_width]; omega
  have hh := e2.h i hil
  rw [domOf_has hvo hil, domOf_from, Bool.true_and] at hh
  have hwi : m.vars[x].lo + (i : Int) = w := by omega
  rw [hwi] at hh
  have hti : (w - d'.from').toNat = i := by omega
  simp only [hasB, Int.toNat_natCast, e1]
  have c1 : decide ((0 : Int) ≤ (x : Int)) = true := by simp
  have c2 : decide (d'.from' ≤ w) = true := by simp; omega
  have c3 : decide (w < d'.from' + d'.width) = true := by simp; omega
  rw [c1, c2, c3, hti, hh]; rfl
end Go.Abs.G

namespace Go.Abs.G
open Go.Proofs
set_option linter.unusedVariables false
set_option linter.unusedSimpArgs false

def oth (l : List DCut) (k j : Nat) : DCut := l.getD (l.length - 1 - (j + k) % l.length) ⟨0, 0, 0⟩
def other (l : List DCut) (k : Nat) : List DCut := (List.range l.length).map (oth l k)
theorem other_mem (l : List DCut) {k : Nat} (hk : k ≤ l.length) (c : DCut) : c ∈ l ↔ c ∈ other l k := by
  unfold other oth
  simp only [List.mem_map, List.mem_range]
  constructor
  · intro h
    obtain ⟨p, hp⟩ := List.getElem?_of_mem h
    have hpl := lt_of_get hp
    have key : ∀ j, j < l.length → (j + k) % l.length = l.length - 1 - p → ∃ a, a < l.length ∧ l.getD (l.length - 1 - (a + k) % l.length) ⟨0, 0, 0⟩ = c := fun j hj e => by
      refine ⟨j, hj, ?_⟩
      rw [e]
      have : l.length - 1 - (l.length - 1 - p) = p := by omega
      rw [this]
      simp [List.getD, hp]
    by_cases hq : k ≤ l.length - 1 - p
    · exact key (l.length - 1 - p - k) (by omega) (by rw [Nat.sub_add_cancel hq, Nat.mod_eq_of_lt (by omega)])
    · exact key (l.length - 1 - p + l.length - k) (by omega) (by
        have : l.length - 1 - p + l.length - k + k = l.length - 1 - p + l.length := by omega
        rw [this, Nat.add_mod_right, Nat.mod_eq_of_lt (by omega)])
  · rintro ⟨j, hj, rfl⟩
    have hlt : l.length - 1 - (j + k) % l.length < l.length := by omega
    have : l.getD (l.length - 1 - (j + k) % l.length) ⟨0, 0, 0⟩ = l[l.length - 1 - (j + k) % l.length] := by simp [List.getD, hlt]
    rw [this]
    exact List.getElem_mem hlt

def goesC (c : DCut) (x : Nat) (w : Int) : Bool := decide (c.x = (x : Int)) && goesB c.k c.v w
theorem gone_succ {l : List DCut} {i : Nat} (h : i < l.length) (x : Nat) (w : Int) : gone (l.take (i + 1)) x w = (gone (l.take i) x w || goesC l[i] x w) := by
  unfold gone goesC
  rw [List.take_succ_eq_append_getElem h, List.any_append]; simp

/-- The inner loop: whether a value goes by some cut. -/
theorem order_b3 {m : Model} {l : List DCut} (hl : l.length ≤ 300) (B A A2 : O) (E : List O) (x : Nat) (w : Int) {Q : Ex → St → Prop} {st : St} (p : Nat) (hp : p = (B :: A :: A2 :: E).length) (hH : (B :: A :: A2 :: E).map (limO p) = (B :: A :: A2 :: E))
    (h : At [(1, vCuts l), (3, .ptr 0 1 0 0), (7, .ptr 1 1 0 0), (12, V.i x), (13, V.i w), (14, .bool false), (15, V.i 0)] (B :: A :: A2 :: E) st)
    (hq : ∀ st', (∃ F, At [(1, vCuts l), (3, .ptr 0 1 0 0), (7, .ptr 1 1 0 0), (12, V.i x), (13, V.i w), (14, .bool (gone l x w))] ((B :: A :: A2 :: E) ++ F) st') → Q (.exit 6) st') : vc Try.prog (.loop hallmarklaw11_DomOrder.b3) Q st := by
  have hp2 : 2 ≤ p := by rw [hp]; simp
  obtain ⟨sl, hp', bs⟩ := st
  obtain ⟨rfl, h⟩ := h
  simp only [sls_cons, sls_one] at h
  have e1 : ((B :: A :: A2 :: E) ++ [O.res])[p]? = some .res := by rw [hp]; simp
  have e2 : ∀ o, ((B :: A :: A2 :: E) ++ [O.res]).set p o = (B :: A :: A2 :: E) ++ [o] := fun o => by rw [hp, List.set_append, if_neg (by omega), Nat.sub_self]; rfl
  have e3 : ∀ o, ((B :: A :: A2 :: E) ++ [o])[p]? = some o := fun o => by rw [hp]; simp
  have e4 : ∀ o o', ((B :: A :: A2 :: E) ++ [o]).set p o' = (B :: A :: A2 :: E) ++ [o'] := fun o o' => by rw [hp, List.set_append, if_neg (by omega), Nat.sub_self]; rfl
  have e5 : ∀ (o : O) (h2), ((B :: A :: A2 :: E) ++ [o])[p]'h2 = o := fun o h2 => by have := e3 o; rw [List.getElem?_eq_getElem h2] at this; exact Option.some.inj this
  have e6 : ∀ o, ((B :: A :: A2 :: E) ++ [o]).take p = B :: A :: A2 :: E := fun o => by rw [hp]; simp
  have e7 : E.length + 1 + 1 + 1 = p := by rw [hp]; rfl
  obtain ⟨HH, hHH⟩ : ∃ HH : Unit → Heap, HH () = B :: A :: A2 :: E := ⟨fun _ => B :: A :: A2 :: E, rfl⟩
  rw [← hHH] at hp hH hq e1 e2 e3 e4 e5 e6 ⊢
  clear hHH
  refine vc_upto p (by rw [hp]; exact Nat.le_refl _) l.length (fun i st => At [(1, vCuts l), (3, .ptr 0 1 0 0), (7, .ptr 1 1 0 0), (12, V.i x), (13, V.i w), (14, .bool (gone (l.take i) x w)), (15, V.i i)] (HH ()) st) ⟨rfl, by simpa [gone] using h⟩ ?_
  clear h
  rintro i ⟨sl, hp2', bs⟩ hi ⟨rfl, h⟩
  simp only [sls_cons, sls_one] at h
  unfold hallmarklaw11_DomOrder.b3
  by_cases hil : i < l.length
  · have hw : IntKind.i64.wrap ((i : Int) + 1) = ((i + 1 : Nat) : Int) := by rw [wrap64] <;> omega
    obtain ⟨c, hc⟩ : ∃ c, c = l[i] := ⟨_, rfl⟩
    have hgs := gone_succ hil x w
    rw [← hc] at hgs
    obtain ⟨g, hg⟩ : ∃ g, g = gone (l.take i) x w := ⟨_, rfl⟩
    rw [← hg] at h hgs
    refine vc_cut (At [(1, vCuts l), (3, .ptr 0 1 0 0), (7, .ptr 1 1 0 0), (12, V.i x), (13, V.i w), (14, .bool g), (15, V.i i)] (HH ())) (by simp -dsimp [h, At, hil, vCuts]) ?_
    try clear h
    rintro ⟨sl, hp, bs⟩ ⟨rfl, h⟩
    simp only [sls_cons, sls_one, sls_nil] at h
    refine vc_cut (At [(1, vCuts l), (3, .ptr 0 1 0 0), (7, .ptr 1 1 0 0), (12, V.i x), (13, V.i w), (14, .bool (g || goesC c x w)), (15, V.i i)] (HH () ++ [.mem false [] [c.cells]])) ?_ ?_
    · refine vc_block_of ?_
      refine vc_cut (At [(1, vCuts l), (3, .ptr 0 1 0 0), (7, .ptr 1 1 0 0), (12, V.i x), (13, V.i w), (14, .bool g), (15, V.i i), (16, .ptr p 1 0 0)] (HH () ++ [.mem false [] [c.cells]])) (by simp -dsimp [h, At, hil, vCuts, ← hc, DCut.cells, ← hp, e1, e2, e3, e4, e5]) ?_
      try clear h
      rintro ⟨sl, hp, bs⟩ ⟨rfl, h⟩
      simp only [sls_cons, sls_one, sls_nil] at h
      refine vc_reg_of (vcIts_cut 17 (At [(1, vCuts l), (3, .ptr 0 1 0 0), (7, .ptr 1 1 0 0), (12, V.i x), (13, V.i w), (14, .bool g), (15, V.i i), (16, .ptr p 1 0 0), (133, .bool g), (138, if g then .a undef else .bool (decide (c.x = (x : Int)))), (148, if g || !decide (c.x = (x : Int)) then .a undef else .bool (decide (c.k = 1) && decide (w < c.v)))] (HH () ++ [.mem false [] [c.cells]])) ?_ ?_)
      · cases g
        · by_cases hx : c.x = (x : Int)
          · by_cases k1 : c.k = 1
            · by_cases hv : w < c.v
              · simp -dsimp [h, At, e3, e5, DCut.cells, hx, k1, hv]
              · simp -dsimp [h, At, e3, e5, DCut.cells, hx, k1, hv]
            · simp -dsimp [h, At, e3, e5, DCut.cells, hx, k1]
          · simp -dsimp [h, At, e3, e5, DCut.cells, hx]
        · simp -dsimp [h, At]
      try clear h
      rintro ⟨sl, hp, bs⟩ ⟨rfl, h⟩
      simp only [sls_cons, sls_one, sls_nil] at h
      refine vcIts_cut 11 (At [(1, vCuts l), (3, .ptr 0 1 0 0), (7, .ptr 1 1 0 0), (12, V.i x), (13, V.i w), (14, .bool g), (15, V.i i), (16, .ptr p 1 0 0), (133, .bool g), (138, if g then .a undef else .bool (decide (c.x = (x : Int)))), (159, if g || !decide (c.x = (x : Int)) then .a undef else .bool ((decide (c.k = 1) && decide (w < c.v)) || (decide (c.k = 2) && decide (c.v < w))))] (HH () ++ [.mem false [] [c.cells]])) ?_ ?_
      · cases g
        · by_cases hx : c.x = (x : Int)
          · by_cases k1 : c.k = 1 ∧ w < c.v
            · simp -dsimp [h, At, e3, e5, DCut.cells, hx, k1.1, k1.2]
            · have k1' : (decide (c.k = 1) && decide (w < c.v)) = false := by simpa using k1
              simp only [k1'] at h ⊢
              by_cases k2 : c.k = 2
              · by_cases hv : c.v < w
                · simp -dsimp [h, At, e3, e5, DCut.cells, hx, k2, hv]
                · simp -dsimp [h, At, e3, e5, DCut.cells, hx, k2, hv]
              · simp -dsimp [h, At, e3, e5, DCut.cells, hx, k2]
          · simp -dsimp [h, At, e3, e5, DCut.cells, hx]
        · simp -dsimp [h, At]
      try clear h
      rintro ⟨sl, hp, bs⟩ ⟨rfl, h⟩
      simp only [sls_cons, sls_one, sls_nil] at h
      cases g
      · by_cases hx : c.x = (x : Int)
        · by_cases k1 : (c.k = 1 ∧ w < c.v) ∨ (c.k = 2 ∧ c.v < w)
          · have k1' : ((decide (c.k = 1) && decide (w < c.v)) || (decide (c.k = 2) && decide (c.v < w))) = true := by simpa using k1
            have hg2 : goesC c x w = true := by
              rcases k1 with k1 | k1 <;> simp [goesC, goesB, hx, k1.1, k1.2]
            simp only [k1'] at h
            simp -dsimp [h, At, e3, e5, DCut.cells, hx, hg2]
          · have k1' : ((decide (c.k = 1) && decide (w < c.v)) || (decide (c.k = 2) && decide (c.v < w))) = false := by simpa using k1
            simp only [k1'] at h
            by_cases k3 : c.k = 3
            · by_cases hv : w = c.v
              · have hg2 : goesC c x w = true := by simp [goesC, goesB, hx, k3, hv]
                have hg3 : goesC c x c.v = true := hv ▸ hg2
                simp -dsimp [h, At, e3, e5, DCut.cells, hx, k3, hv, hg2, hg3]
              · have hg2 : goesC c x w = false := by simp [goesC, goesB, hx, k3, hv]
                simp -dsimp [h, At, e3, e5, DCut.cells, hx, k3, hv, hg2]
            · have hg2 : goesC c x w = false := by
                unfold goesC goesB
                by_cases h1 : c.k = 1
                · have : ¬ w < c.v := fun e => k1 (.inl ⟨h1, e⟩)
                  simp [h1, this]
                · by_cases h2 : c.k = 2
                  · have : ¬ c.v < w := fun e => k1 (.inr ⟨h2, e⟩)
                    simp [h1, h2, this]
                  · simp [h1, h2, k3]
              simp -dsimp [h, At, e3, e5, DCut.cells, hx, k3, hg2]
        · simp -dsimp [h, At, e3, e5, DCut.cells, hx, goesC]
      · simp -dsimp [h, At]
    try clear h
    rintro ⟨sl, hp, bs⟩ ⟨rfl, h⟩
    simp only [sls_cons, sls_one, sls_nil] at h
    have hmap : List.map (limO p) (List.take p (HH () ++ [O.mem false [] [c.cells]])) = HH () := by rw [e6]; exact hH
    have hmap2 : List.take p (List.map (limO p) (HH ()) ++ [O.mem false [] [c.cells]]) = HH () := by rw [hH]; exact e6 _
    simp -dsimp [h, At, hw, hil, vCuts, hgs, hmap, hmap2]
    omega
  · have hil' : i = l.length := by omega
    subst hil'
    simp only [List.take_length] at h
    simp -dsimp [h, vCuts]
    refine hq _ ⟨[], ?_⟩
    simp [At, h, vCuts]
end Go.Abs.G

namespace Go.Abs.G
open Go.Proofs
set_option linter.unusedVariables false
set_option linter.unusedSimpArgs false

theorem take_map_lim {H F : Heap} {p : Nat} (hp : p = H.length) (hH : H.map (limO p) = H) : (List.map (limO p) (H ++ F)).take p = H := by
  rw [List.map_append, hH, hp]; simp

theorem order_b2 {m : Model} {l : List DCut} {s : List Dom} (hs : SOk s []) (hl : l.length ≤ 300) (A2 : O) (E : List O) (x : Nat) (hx : x < m.vars.length) (hb : -1000000000 ≤ m.vars[x].lo ∧ m.vars[x].hi ≤ 1000000000)
    (hhas : ∀ w : Int, m.vars[x].lo ≤ w → w ≤ m.vars[x].hi → hasB s x w = !gone l x w) {Q : Ex → St → Prop} {st : St} (p : Nat) (hp : p = (.mem false [] [m.cells] :: St1 s (mT []) :: A2 :: E).length) (hH : (.mem false [] [m.cells] :: St1 s (mT []) :: A2 :: E).map (limO p) = (.mem false [] [m.cells] :: St1 s (mT []) :: A2 :: E))
    (h : At [(1, vCuts l), (3, .ptr 0 1 0 0), (7, .ptr 1 1 0 0), (12, V.i x), (13, V.i m.vars[x].lo)] (.mem false [] [m.cells] :: St1 s (mT []) :: A2 :: E) st)
    (hq : ∀ st', At [(1, vCuts l), (3, .ptr 0 1 0 0), (7, .ptr 1 1 0 0), (12, V.i x)] (.mem false [] [m.cells] :: St1 s (mT []) :: A2 :: E) st' → Q (.exit 4) st') : vc Try.prog (.loop hallmarklaw11_DomOrder.b2) Q st := by
  obtain ⟨lo, hlo⟩ : ∃ lo, lo = m.vars[x].lo := ⟨_, rfl⟩
  obtain ⟨hi, hhi⟩ : ∃ hi, hi = m.vars[x].hi := ⟨_, rfl⟩
  rw [← hlo] at h
  rw [← hlo, ← hhi] at hb hhas
  have hp2 : 2 ≤ p := by rw [hp]; simp
  obtain ⟨sl, hp', bs⟩ := st
  obtain ⟨rfl, h⟩ := h
  simp only [sls_cons, sls_one] at h
  refine vc_upto p (by rw [hp]; exact Nat.le_refl _) (hi - lo + 1).toNat (fun i st => At [(1, vCuts l), (3, .ptr 0 1 0 0), (7, .ptr 1 1 0 0), (12, V.i x), (13, V.i (lo + i))] (.mem false [] [m.cells] :: St1 s (mT []) :: A2 :: E) st) ⟨rfl, by simpa using h⟩ ?_
  clear h
  rintro i ⟨sl, hp2', bs⟩ hi2 ⟨rfl, h⟩
  simp only [sls_cons, sls_one] at h
  unfold hallmarklaw11_DomOrder.b2
  by_cases hil : lo + i ≤ hi
  · have hw : IntKind.i64.wrap (lo + (i : Int) + 1) = lo + ((i + 1 : Nat) : Int) := by rw [wrap64] <;> omega
    refine vc_cut (At [(1, vCuts l), (3, .ptr 0 1 0 0), (7, .ptr 1 1 0 0), (12, V.i x), (13, V.i (lo + i))] (.mem false [] [m.cells] :: St1 s (mT []) :: A2 :: E)) (by simp -dsimp [h, At, hil, hx, ← hhi, Model.cells, vVars, vCons, vTerms, Var.cells]) ?_
    try clear h
    rintro ⟨sl, hp, bs⟩ ⟨rfl, h⟩
    simp only [sls_cons, sls_one, sls_nil] at h
    refine vc_cut (fun st => ∃ F, At [(1, vCuts l), (3, .ptr 0 1 0 0), (7, .ptr 1 1 0 0), (12, V.i x), (13, V.i (lo + i))] ((.mem false [] [m.cells] :: St1 s (mT []) :: A2 :: E) ++ F) st) ?_ ?_
    · refine vc_block_of ?_
      refine vc_cut (At [(1, vCuts l), (3, .ptr 0 1 0 0), (7, .ptr 1 1 0 0), (12, V.i x), (13, V.i (lo + i)), (14, .bool false)] (.mem false [] [m.cells] :: St1 s (mT []) :: A2 :: E)) (by simp -dsimp [h, At]) ?_
      try clear h
      rintro ⟨sl, hp, bs⟩ ⟨rfl, h⟩
      simp only [sls_cons, sls_one, sls_nil] at h
      refine vc_cut (fun st => ∃ F, At [(1, vCuts l), (3, .ptr 0 1 0 0), (7, .ptr 1 1 0 0), (12, V.i x), (13, V.i (lo + i)), (14, .bool (gone l x (lo + i)))] ((.mem false [] [m.cells] :: St1 s (mT []) :: A2 :: E) ++ F) st) ?_ ?_
      · refine vc_cut (At [(1, vCuts l), (3, .ptr 0 1 0 0), (7, .ptr 1 1 0 0), (12, V.i x), (13, V.i (lo + i)), (14, .bool false), (15, V.i 0)] (.mem false [] [m.cells] :: St1 s (mT []) :: A2 :: E)) (by simp -dsimp [h, At]) ?_
        try clear h
        rintro ⟨sl, hp, bs⟩ ⟨rfl, h⟩
        simp only [sls_cons, sls_one, sls_nil] at h
        exact vc_block_of (order_b3 (m := m) hl _ _ A2 E x (lo + i) p hp hH ⟨rfl, by simpa using h⟩ fun st' ⟨F, hF⟩ => ⟨F, hF⟩)
      rintro ⟨sl, hp3, bs⟩ ⟨F, rfl, h⟩; simp only [sls_cons, sls_one] at h
      have hv := hhas (lo + i) (by omega) hil
      have hc := hasP hs x (lo + i) ⟨by omega, by omega⟩
      rw [hv] at hc
      simp -dsimp [h]
      refine gcallm1 hc 1 (by simp -dsimp [h, addAll]) (by simp -dsimp [h]) (by simp) (by simp) (by simp) (by simp -dsimp [h, idx]) (by simp) ?_
      cases hg : gone l x (lo + i)
      · simp -dsimp [h, hg, At]
      · simp -dsimp [h, hg, At]
    rintro ⟨sl, hp3, bs⟩ ⟨F, rfl, h⟩; simp only [sls_cons, sls_one] at h
    have hT := take_map_lim (F := F) hp hH
    obtain ⟨HH, hHH⟩ : ∃ HH : Unit → Heap, HH () = .mem false [] [m.cells] :: St1 s (mT []) :: A2 :: E := ⟨fun _ => _, rfl⟩
    rw [← hHH] at hT ⊢
    simp -dsimp [h, At, hw, vCuts, -List.map_append]
    refine ⟨by omega, ?_, by omega, by omega⟩
    exact hT
  · simp -dsimp [h, hil, hx, ← hhi, Model.cells, vVars, vCons, vTerms, Var.cells]
    exact hq _ (by simp [At, h, Model.cells, vVars, vCons, vTerms])

theorem order_b1 {m : Model} {l : List DCut} {s : List Dom} (hs : SOk s []) (hl : l.length ≤ 300) (A2 : O) (E : List O) (hsl : s.length ≤ m.vars.length) (hb : ∀ x (h : x < s.length), -1000000000 ≤ m.vars[x].lo ∧ m.vars[x].hi ≤ 1000000000)
    (hhas : ∀ x (h : x < s.length) (w : Int), m.vars[x].lo ≤ w → w ≤ m.vars[x].hi → hasB s x w = !gone l x w) {Q : Ex → St → Prop} {st : St} (p : Nat) (hp : p = (.mem false [] [m.cells] :: St1 s (mT []) :: A2 :: E).length) (hH : (.mem false [] [m.cells] :: St1 s (mT []) :: A2 :: E).map (limO p) = (.mem false [] [m.cells] :: St1 s (mT []) :: A2 :: E))
    (h : At [(1, vCuts l), (3, .ptr 0 1 0 0), (7, .ptr 1 1 0 0), (12, V.i 0)] (.mem false [] [m.cells] :: St1 s (mT []) :: A2 :: E) st)
    (hq : ∀ st', Q (.exit 2) st') : vc Try.prog (.loop hallmarklaw11_DomOrder.b1) Q st := by
  have hn := hs.n
  have hp2 : 2 ≤ p := by rw [hp]; simp
  obtain ⟨sl, hp', bs⟩ := st
  obtain ⟨rfl, h⟩ := h
  simp only [sls_cons, sls_one] at h
  refine vc_upto p (by rw [hp]; exact Nat.le_refl _) s.length (fun i st => At [(1, vCuts l), (3, .ptr 0 1 0 0), (7, .ptr 1 1 0 0), (12, V.i i)] (.mem false [] [m.cells] :: St1 s (mT []) :: A2 :: E) st) ⟨rfl, by simpa using h⟩ ?_
  clear h
  rintro i ⟨sl, hp2', bs⟩ hi2 ⟨rfl, h⟩
  simp only [sls_cons, sls_one] at h
  unfold hallmarklaw11_DomOrder.b1
  by_cases hil : i < s.length
  · have hw : IntKind.i64.wrap ((i : Int) + 1) = ((i + 1 : Nat) : Int) := by rw [wrap64] <;> omega
    have hx : i < m.vars.length := by omega
    refine vc_cut (At [(1, vCuts l), (3, .ptr 0 1 0 0), (7, .ptr 1 1 0 0), (12, V.i i)] (.mem false [] [m.cells] :: St1 s (mT []) :: A2 :: E)) ?_ ?_
    · simp -dsimp [h]
      refine gcallm1 (varsP hs) 1 (by simp -dsimp [h, addAll]) (by simp -dsimp [h]) (by simp) (by simp) (by simp) (by simp -dsimp [h, idx]) (by simp) ?_
      simp -dsimp [h, At, hil]
    try clear h
    rintro ⟨sl, hp, bs⟩ ⟨rfl, h⟩
    simp only [sls_cons, sls_one, sls_nil] at h
    refine vc_cut (At [(1, vCuts l), (3, .ptr 0 1 0 0), (7, .ptr 1 1 0 0), (12, V.i i)] (.mem false [] [m.cells] :: St1 s (mT []) :: A2 :: E)) ?_ ?_
    · refine vc_block_of ?_
      refine vc_cut (At [(1, vCuts l), (3, .ptr 0 1 0 0), (7, .ptr 1 1 0 0), (12, V.i i), (13, V.i m.vars[i].lo)] (.mem false [] [m.cells] :: St1 s (mT []) :: A2 :: E)) (by simp -dsimp [h, At, hx, Model.cells, vVars, vCons, vTerms, Var.cells]) ?_
      try clear h
      rintro ⟨sl, hp, bs⟩ ⟨rfl, h⟩
      simp only [sls_cons, sls_one, sls_nil] at h
      exact vc_block_of (order_b2 hs hl A2 E i hx (hb i hil) (hhas i hil) p hp hH ⟨rfl, by simpa using h⟩ fun st' h' => h')
    try clear h
    rintro ⟨sl, hp, bs⟩ ⟨rfl, h⟩
    simp only [sls_cons, sls_one, sls_nil] at h
    have hT : List.map (limO p) (List.take p (.mem false [] [m.cells] :: St1 s (mT []) :: A2 :: E)) = (.mem false [] [m.cells] :: St1 s (mT []) :: A2 :: E) := by rw [List.take_of_length_le (by rw [hp]; exact Nat.le_refl _)]; exact hH
    obtain ⟨HH, hHH⟩ : ∃ HH : Unit → Heap, HH () = .mem false [] [m.cells] :: St1 s (mT []) :: A2 :: E := ⟨fun _ => _, rfl⟩
    rw [← hHH] at hT ⊢
    rw [List.map_take] at hT
    simp -dsimp [h, At, hw, vCuts, hil, hT]
    omega
  · have hil' : i = s.length := by omega
    subst hil'
    simp -dsimp [h]
    refine gcallm1 (varsP hs) 1 (by simp -dsimp [h, addAll]) (by simp -dsimp [h]) (by simp) (by simp) (by simp) (by simp -dsimp [h, idx]) (by simp) ?_
    simp -dsimp [h]
    exact hq _
end Go.Abs.G

namespace Go.Abs.G
open Go.Proofs
set_option linter.unusedVariables false
set_option linter.unusedSimpArgs false

def m0 : Model := ⟨[⟨⟨#[120]⟩, -2, 2⟩], [], false, []⟩
def d0 : Dom := ⟨-2, 5, 31, 0⟩
def d1 : Dom := ⟨-2, 5, 30, 0⟩
def d2 : Dom := ⟨-2, 5, 26, 0⟩
def d3 : Dom := ⟨-2, 5, 2, 0⟩
deriving instance DecidableEq for Dom
theorem m0_ok : okModel m0 := by
  refine ⟨⟨by decide, fun v hv => ?_⟩, ⟨by decide, fun c hc => by cases hc⟩, by decide, fun t ht => by cases ht⟩
  simp only [m0, List.mem_cons, List.not_mem_nil, or_false] at hv
  subst hv
  exact ⟨by decide, ⟨by decide, by decide⟩, ⟨by decide, by decide⟩⟩
theorem m0_doms : domsOf m0 = [d0] := by decide +kernel
theorem d_ok {d : Dom} (h : d.from' = -2 ∧ d.width = 5 ∧ d.a ≤ 31 ∧ d.b = 0) : d.ok := ⟨by omega, by omega, by omega, by omega⟩
theorem one_ok {d : Dom} (h : d.from' = -2 ∧ d.width = 5 ∧ d.a ≤ 31 ∧ d.b = 0) (ms : List (List Dom)) (hk : ms.length ≤ 1000000) : SOk [d] ms := ⟨by simp, hk, by simp; exact d_ok h⟩
theorem c1 : cutS [d0] 1 0 (-1) = ([d1], true, true) := by decide +kernel
theorem c2 : cutS [d1] 3 0 0 = ([d2], true, true) := by decide +kernel
theorem c3 : cutS [d2] 2 0 0 = ([d3], true, true) := by decide +kernel
theorem c4 : cutS [d3] 3 0 (-1) = ([d3], false, false) := by decide +kernel
theorem v2 : valsB [d2] 0 = [-1, 1, 2] := by decide +kernel
theorem v3 : valsB [d3] 0 = [-1] := by decide +kernel
theorem o2 : openB [d2] 1 = [0] := by decide +kernel

section
variable (ms : List (List Dom)) (hk : ms.length ≤ 1000000)
include hk
theorem cut1 : DC Try.prog dom_Store_Cut.id [.ptr 0 1 0 0, .agg [V.i 1, V.i 0, V.i (-1)]] [St1 [d0] (mT ms)] fun r H => r = .tup [.bool true, .bool true] ∧ H = [St1 [d1] (mT ms)] := by
  have := cutP (one_ok (d := d0) (by decide) ms hk) 1 0 (-1); rw [c1] at this; exact this
theorem cut2 : DC Try.prog dom_Store_Cut.id [.ptr 0 1 0 0, .agg [V.i 3, V.i 0, V.i 0]] [St1 [d1] (mT ms)] fun r H => r = .tup [.bool true, .bool true] ∧ H = [St1 [d2] (mT ms)] := by
  have := cutP (one_ok (d := d1) (by decide) ms hk) 3 0 0; rw [c2] at this; exact this
theorem cut3 : DC Try.prog dom_Store_Cut.id [.ptr 0 1 0 0, .agg [V.i 2, V.i 0, V.i 0]] [St1 [d2] (mT ms)] fun r H => r = .tup [.bool true, .bool true] ∧ H = [St1 [d3] (mT ms)] := by
  have := cutP (one_ok (d := d2) (by decide) ms hk) 2 0 0; rw [c3] at this; exact this
theorem cut4 : DC Try.prog dom_Store_Cut.id [.ptr 0 1 0 0, .agg [V.i 3, V.i 0, V.i (-1)]] [St1 [d3] (mT ms)] fun r H => r = .tup [.bool false, .bool false] ∧ H = [St1 [d3] (mT ms)] := by
  have := cutP (one_ok (d := d3) (by decide) ms hk) 3 0 (-1); rw [c4] at this; exact this
theorem val2 : DC Try.prog dom_Store_Values.id [.ptr 0 1 0 0, V.i 0] [St1 [d2] (mT ms)] fun r H => r = vInts [-1, 1, 2] ∧ H = [St1 [d2] (mT ms)] := by
  have := valuesP (one_ok (d := d2) (by decide) ms hk) 0; rw [v2] at this; exact this
theorem hi3 : DC Try.prog dom_Store_Hi.id [.ptr 0 1 0 0, V.i 0] [St1 [d3] (mT ms)] fun r H => r = V.i (-1) ∧ H = [St1 [d3] (mT ms)] := by
  have := hiP (one_ok (d := d3) (by decide) ms hk) 0 (by rw [v3]; simp); rw [v3] at this; exact this
theorem lo3 : DC Try.prog dom_Store_Lo.id [.ptr 0 1 0 0, V.i 0] [St1 [d3] (mT ms)] fun r H => r = V.i (-1) ∧ H = [St1 [d3] (mT ms)] := by
  have := loP (one_ok (d := d3) (by decide) ms hk) 0 (by rw [v3]; simp); rw [v3] at this; exact this
theorem has3 : DC Try.prog dom_Store_Has.id [.ptr 0 1 0 0, V.i 0, V.i 2] [St1 [d3] (mT ms)] fun r H => r = .bool false ∧ H = [St1 [d3] (mT ms)] := by
  have := hasP (one_ok (d := d3) (by decide) ms hk) 0 2 ⟨by decide, by decide⟩; rw [show hasB [d3] 0 2 = false from by decide +kernel] at this; exact this
theorem has2 : DC Try.prog dom_Store_Has.id [.ptr 0 1 0 0, V.i 0, V.i 2] [St1 [d2] (mT ms)] fun r H => r = .bool true ∧ H = [St1 [d2] (mT ms)] := by
  have := hasP (one_ok (d := d2) (by decide) ms hk) 0 2 ⟨by decide, by decide⟩; rw [show hasB [d2] 0 2 = true from by decide +kernel] at this; exact this
theorem size0 : DC Try.prog dom_Store_Size.id [.ptr 0 1 0 0, V.i 0] [St1 [d0] (mT ms)] fun r H => r = V.i 5 ∧ H = [St1 [d0] (mT ms)] := by
  have := sizeP (one_ok (d := d0) (by decide) ms hk) 0; rw [show (if isB [d0] 0 then ((([d0][(0 : Int).toNat]?).map Dom.size).getD 0 : Nat) else 0 : Int) = 5 from by decide +kernel] at this; exact this
theorem open2 : DC Try.prog dom_Store_Open.id [.ptr 0 1 0 0] [St1 [d2] (mT ms)] fun r H => r = vInts [0] ∧ H = [St1 [d2] (mT ms)] := by
  have := openP (one_ok (d := d2) (by decide) ms hk); rw [show openB [d2] [d2].length = [0] from o2] at this; exact this
end

theorem known_spec : Pf Try.prog hallmarklaw11_known.id [] (.bool true) := by
  refine DC.of hallmarklaw11_known.ok (by simp) ?_
  unfold hallmarklaw11_known.ir
  have hnew := newP1 m0 m0_ok
  rw [m0_doms] at hnew
  refine vc_cut (At [] []) (by simp -dsimp [At]) ?_
  try clear h
  rintro ⟨sl, hp, bs⟩ ⟨rfl, h⟩
  simp only [sls_cons, sls_one, sls_nil] at h
  refine vc_cut (At [(1, .ptr 1 1 0 0)] [.res, St1 [d0] (mT [])]) ?_ ?_
  · simp -dsimp [h]
    refine gcallo (zs := [.agg [vVars m0.vars, nilS, .bool false, nilS]]) (H0 := [St1 [d0] (mT [])]) (r0 := .ptr 0 1 0 0) (DC.sub (.cons (.agg (.cons (.refl _) (.cons (.nil 10) (.cons (.refl _) (.cons (.nil 2) .nil))))) .nil) hnew) (by simp -dsimp [vVars, m0, Var.cells]) (by simp -dsimp [vVars]) (by simp) ?_
    simp -dsimp [At]
  try clear h
  rintro ⟨sl, hp, bs⟩ ⟨rfl, h⟩
  simp only [sls_cons, sls_one, sls_nil] at h
  refine vc_cut (At [(1, .ptr 1 1 0 0)] [.res, St1 [d0] (mT [])]) ?_ ?_
  · simp -dsimp [h]
    refine gcallm1 (varsP (one_ok (d := d0) (by decide) [] (by simp))) 1 (by simp -dsimp [h, addAll]) (by simp -dsimp [h]) (by simp) (by simp) (by simp) (by simp -dsimp [h, idx]) (by simp) ?_
    simp -dsimp [h]
    refine gcallm1 (size0 [] (by simp)) 1 (by simp -dsimp [h, addAll]) (by simp -dsimp [h]) (by simp) (by simp) (by simp) (by simp -dsimp [h, idx]) (by simp) ?_
    simp -dsimp [h, At]
  try clear h
  rintro ⟨sl, hp, bs⟩ ⟨rfl, h⟩
  simp only [sls_cons, sls_one, sls_nil] at h
  refine vc_cut (At [(1, .ptr 1 1 0 0)] [.res, St1 [d1] (mT [])]) ?_ ?_
  · simp -dsimp [h]
    refine gcallm1 (cut1 [] (by simp)) 1 (by simp -dsimp [h, addAll]) (by simp -dsimp [h]) (by simp) (by simp) (by simp) (by simp -dsimp [h, idx]) (by simp) ?_
    simp -dsimp [h, At]
  try clear h
  rintro ⟨sl, hp, bs⟩ ⟨rfl, h⟩
  simp only [sls_cons, sls_one, sls_nil] at h
  refine vc_cut (At [(1, .ptr 1 1 0 0), (2, .bool true), (3, .bool true)] [.res, St1 [d2] (mT [])]) ?_ ?_
  · simp -dsimp [h]
    refine gcallm1 (cut2 [] (by simp)) 1 (by simp -dsimp [h, addAll]) (by simp -dsimp [h]) (by simp) (by simp) (by simp) (by simp -dsimp [h, idx]) (by simp) ?_
    simp -dsimp [h, At]
  try clear h
  rintro ⟨sl, hp, bs⟩ ⟨rfl, h⟩
  simp only [sls_cons, sls_one, sls_nil] at h
  refine vc_cut (At [(1, .ptr 1 1 0 0)] [.res, St1 [d2] (mT [[d2]]), .res]) ?_ ?_
  · simp -dsimp [h]
    refine gcallm1 (val2 [] (by simp)) 1 (by simp -dsimp [h, addAll]) (by simp -dsimp [h]) (by simp) (by simp) (by simp) (by simp -dsimp [h, idx]) (by simp) ?_
    simp -dsimp [h]
    refine gcall (sameInts_spec [-1, 1, 2] [-1, 1, 2] (by decide)) (by simp -dsimp [h, vInts]) (by simp -dsimp [h, vInts]) ?_
    simp -dsimp [h, vInts]
    refine gcallm1 (mark_packed (s := [d2]) (ms := []) (by simp) (by simp)) 1 (by simp -dsimp [h, addAll]) (by simp -dsimp [h]) (by simp) (by simp) (by simp) (by simp -dsimp [h, idx]) (by simp) ?_
    simp -dsimp [h, At]
  try clear h
  rintro ⟨sl, hp, bs⟩ ⟨rfl, h⟩
  simp only [sls_cons, sls_one, sls_nil] at h
  refine vc_cut (At [(1, .ptr 1 1 0 0)] [.res, St1 [d3] (mT [[d2]]), .res]) ?_ ?_
  · simp -dsimp [h]
    refine gcallm1 (cut3 [[d2]] (by simp)) 1 (by simp -dsimp [h, addAll]) (by simp -dsimp [h]) (by simp) (by simp) (by simp) (by simp -dsimp [h, idx]) (by simp) ?_
    simp -dsimp [h, At]
  try clear h
  rintro ⟨sl, hp, bs⟩ ⟨rfl, h⟩
  simp only [sls_cons, sls_one, sls_nil] at h
  refine vc_cut (At [(1, .ptr 1 1 0 0), (5, .bool false)] [.res, St1 [d3] (mT [[d2]]), .res]) ?_ ?_
  · simp -dsimp [h]
    refine gcallm1 (cut4 [[d2]] (by simp)) 1 (by simp -dsimp [h, addAll]) (by simp -dsimp [h]) (by simp) (by simp) (by simp) (by simp -dsimp [h, idx]) (by simp) ?_
    simp -dsimp [h, At]
  try clear h
  rintro ⟨sl, hp, bs⟩ ⟨rfl, h⟩
  simp only [sls_cons, sls_one, sls_nil] at h
  simp -dsimp [h]
  refine gcallm1 (hi3 [[d2]] (by simp)) 1 (by simp -dsimp [h, addAll]) (by simp -dsimp [h]) (by simp) (by simp) (by simp) (by simp -dsimp [h, idx]) (by simp) ?_
  simp -dsimp [h]
  refine gcallm1 (lo3 [[d2]] (by simp)) 1 (by simp -dsimp [h, addAll]) (by simp -dsimp [h]) (by simp) (by simp) (by simp) (by simp -dsimp [h, idx]) (by simp) ?_
  simp -dsimp [h]
  refine gcallm1 (has3 [[d2]] (by simp)) 1 (by simp -dsimp [h, addAll]) (by simp -dsimp [h]) (by simp) (by simp) (by simp) (by simp -dsimp [h, idx]) (by simp) ?_
  simp -dsimp [h]
  refine gcallm1 (mark_packed (s := [d3]) (ms := [[d2]]) (by simp) (by simp)) 1 (by simp -dsimp [h, addAll]) (by simp -dsimp [h]) (by simp) (by simp) (by simp) (by simp -dsimp [h, idx]) (by simp) ?_
  simp -dsimp [h]
  refine gcallm1 (back_no (s := [d3]) (ms := [[d2], [d3]]) (by simp) 2 (by simp)) 1 (by simp -dsimp [h, addAll]) (by simp -dsimp [h]) (by simp) (by simp) (by simp) (by simp -dsimp [h, idx]) (by simp) ?_
  simp -dsimp [h]
  refine gcallm1 (back_yes (s := [d3]) (ms := [[d2], [d3]]) (i := 0) (by simp) rfl) 1 (by simp -dsimp [h, addAll]) (by simp -dsimp [h]) (by simp) (by simp) (by simp) (by simp -dsimp [h, idx]) (by simp) ?_
  simp -dsimp [h]
  refine gcallm1 (has2 [] (by simp)) 1 (by simp -dsimp [h, addAll]) (by simp -dsimp [h]) (by simp) (by simp) (by simp) (by simp -dsimp [h, idx]) (by simp) ?_
  simp -dsimp [h]
  refine gcallm1 (open2 [] (by simp)) 1 (by simp -dsimp [h, addAll]) (by simp -dsimp [h]) (by simp) (by simp) (by simp) (by simp -dsimp [h, idx]) (by simp) ?_
  simp -dsimp [h]
  refine gcall (sameInts_spec [0] [0] (by decide)) (by simp -dsimp [h, vInts]) (by simp -dsimp [h, vInts]) ?_
  simp -dsimp [h, vInts]
  refine gcallm1 (copy_packed (s := [d2]) (ms := []) (by simp) (by simp) (by simp)) 1 (by simp -dsimp [h, addAll]) (by simp -dsimp [h]) (by simp) (by simp) (by simp) (by simp -dsimp [h, idx]) (by simp) ?_
  simp -dsimp [h]
  refine gcallm1 (sameP1 (one_ok (d := d2) (by decide) [] (by simp))) 1 (by simp -dsimp [h, addAll]) (by simp -dsimp [h]) (by simp) (by simp) (by simp) (by simp -dsimp [h, idx]) (by simp) ?_
  simp -dsimp [h, hallmarklaw11_known.rs]
end Go.Abs.G

namespace Go.Abs.G
open Go.Proofs
set_option linter.unusedVariables false
set_option linter.unusedSimpArgs false

theorem take_vars (m : Model) : List.take m.vars.length (m.vars.map Var.cells) = m.vars.map Var.cells := List.take_of_length_le (by simp)
theorem take_goal (m : Model) : List.take m.goal.length (m.goal.map Term.cells) = m.goal.map Term.cells := List.take_of_length_le (by simp)

theorem copied_spec (m : Model) (hm : Small m) : Pf Try.prog hallmarklaw11_copied.id [.agg m.cells] (.agg m.cells) := by
  have hv := hm.v
  have hc := hm.c
  have hg := hm.g
  have tv := take_vars m
  have tg := take_goal m
  refine DP.weak (Q := fun r => r = .agg m.cells ∨ m.cons = [] ∧ r = .agg [vVars m.vars, nilS, .bool m.hasGoal, vTerms m.goal]) ?_ ?_
  rotate_left
  · rintro r (rfl | ⟨he, rfl⟩)
    · exact ⟨_, .refl _, fun H => by simp [Model.cells, vVars, vCons, vTerms], rfl⟩
    · refine ⟨.agg m.cells, ?_, fun H => by simp [Model.cells, vVars, vCons, vTerms], rfl⟩
      have : m.cells = [vVars m.vars, .view 10 [], .bool m.hasGoal, vTerms m.goal] := by simp [Model.cells, vCons, he]
      rw [this]
      exact .agg (.cons (.refl _) (.cons (.nil 10) (.cons (.refl _) (.cons (.refl _) .nil))))
  refine DC.of hallmarklaw11_copied.ok (by simp) ?_
  unfold hallmarklaw11_copied.ir
  obtain ⟨B, hB⟩ : ∃ B, B = O.mem false [] [m.cells] := ⟨_, rfl⟩
  refine vc_cut (At [(1, .ptr 0 1 0 0), (2, .ptr 1 1 0 0)] [B, .mem false [] [[nilS, nilS, .bool false, nilS]]]) (by simp -dsimp [At, hB, Model.cells, vVars, vCons, vTerms]) ?_
  try clear h
  rintro ⟨sl, hp, bs⟩ ⟨rfl, h⟩
  simp only [sls_cons, sls_one, sls_nil] at h
  refine vc_cut (At [(1, .ptr 0 1 0 0), (2, .ptr 1 1 0 0), (3, .ptr 2 1 0 0)] [B, .mem false [] [[nilS, nilS, .bool false, nilS]], .mem false [] [[nilS, nilS, .bool m.hasGoal, nilS]]]) (by simp -dsimp [h, At, hB, Model.cells, vVars, vCons, vTerms]) ?_
  try clear h
  rintro ⟨sl, hp, bs⟩ ⟨rfl, h⟩
  simp only [sls_cons, sls_one, sls_nil] at h
  refine vc_cut (fun st => ∃ a, At [(1, .ptr 0 1 0 0), (2, .ptr 1 1 0 0), (3, .ptr 2 1 0 0)] [B, .mem false [] [[nilS, nilS, .bool false, nilS]], .mem false [] [[vVars m.vars, nilS, .bool m.hasGoal, nilS]], a] st) ?_ ?_
  · simp -dsimp [h, At, hB, Model.cells, vVars, vCons, vTerms, tv]
    omega
  rintro ⟨sl, hp, bs⟩ ⟨a, rfl, h⟩; simp only [sls_cons, sls_one] at h
  refine vc_cut (fun st => ∃ b, At [(1, .ptr 0 1 0 0), (2, .ptr 1 1 0 0), (3, .ptr 2 1 0 0)] [B, .mem false [] [[nilS, nilS, .bool false, nilS]], .mem false [] [[vVars m.vars, nilS, .bool m.hasGoal, vTerms m.goal]], a, b] st) ?_ ?_
  · simp -dsimp [h, At, hB, Model.cells, vVars, vCons, vTerms, tg]
    omega
  rintro ⟨sl, hp, bs⟩ ⟨b, rfl, h⟩; simp only [sls_cons, sls_one] at h

  refine vc_cut (fun st => ∃ a b, (m.cons.length = 0 ∧ At [(1, .ptr 0 1 0 0), (2, .ptr 1 1 0 0), (3, .ptr 2 1 0 0)] [B, .mem false [] [[nilS, nilS, .bool false, nilS]], .mem false [] [[vVars m.vars, nilS, .bool m.hasGoal, vTerms m.goal]], a, b] st) ∨ (0 < m.cons.length ∧ ∃ c1 c2 c3 c4 c5, At [(1, .ptr 0 1 0 0), (2, .ptr 1 1 0 0), (3, .ptr 2 1 0 0)] [B, .mem false [] [[nilS, nilS, .bool false, nilS]], .mem false [10] [[vVars m.vars, .own 10 10 0 (m.cons.length) (m.cons.length), .bool m.hasGoal, vTerms m.goal]], a, b, c1, c2, c3, c4, c5, .mem false [] ((m.cons.take (m.cons.length)).map Con.cells)] st)) ?_ ?_
  · refine vc_cut (At [(1, .ptr 0 1 0 0), (2, .ptr 1 1 0 0), (3, .ptr 2 1 0 0), (4, V.i 0)] [B, .mem false [] [[nilS, nilS, .bool false, nilS]], .mem false [] [[vVars m.vars, nilS, .bool m.hasGoal, vTerms m.goal]], a, b]) (by simp -dsimp [h, At]) ?_
    try clear h
    rintro ⟨sl, hp, bs⟩ ⟨rfl, h⟩
    simp only [sls_cons, sls_one, sls_nil] at h
    refine vc_block_of (vc_upto 11 (by simp) m.cons.length (fun i st => ∃ a b, (i = 0 ∧ At [(1, .ptr 0 1 0 0), (2, .ptr 1 1 0 0), (3, .ptr 2 1 0 0), (4, V.i i)] [B, .mem false [] [[nilS, nilS, .bool false, nilS]], .mem false [] [[vVars m.vars, nilS, .bool m.hasGoal, vTerms m.goal]], a, b] st) ∨ (0 < i ∧ ∃ c1 c2 c3 c4 c5, At [(1, .ptr 0 1 0 0), (2, .ptr 1 1 0 0), (3, .ptr 2 1 0 0), (4, V.i i)] [B, .mem false [] [[nilS, nilS, .bool false, nilS]], .mem false [10] [[vVars m.vars, .own 10 10 0 (i) (i), .bool m.hasGoal, vTerms m.goal]], a, b, c1, c2, c3, c4, c5, .mem false [] ((m.cons.take (i)).map Con.cells)] st)) ⟨a, b, .inl ⟨rfl, rfl, by simpa using h⟩⟩ ?_)
    clear h
    rintro i ⟨sl, hp, bs⟩ hi ⟨a, b, hh⟩
    unfold hallmarklaw11_copied.b0
    by_cases hil : i < m.cons.length
    · have hw : IntKind.i64.wrap ((i : Int) + 1) = ((i + 1 : Nat) : Int) := by rw [wrap64] <;> omega
      obtain ⟨c, hcc⟩ : ∃ c, c = m.cons[i] := ⟨_, rfl⟩
      have hsz := hm.e _ (List.getElem_mem hil)
      rw [← hcc] at hsz
      obtain ⟨s1, s2, s3⟩ := hsz
      have t1 : List.take c.terms.length (c.terms.map Term.cells) = c.terms.map Term.cells := List.take_of_length_le (by simp)
      have t2 : List.take c.xs.length (c.xs.map fun n => [V.i n]) = c.xs.map fun n => [V.i n] := List.take_of_length_le (by simp)
      have t3 : List.take c.table.length (c.table.map fun n => [V.i n]) = c.table.map fun n => [V.i n] := List.take_of_length_le (by simp)
      have hT : (m.cons.take (i + 1)).map Con.cells = (m.cons.take i).map Con.cells ++ [c.cells] := by rw [List.take_succ_eq_append_getElem hil, List.map_append, hcc]; rfl
      have hTl : ((m.cons.take i).map Con.cells).length = i := by simp; omega
      rcases hh with ⟨hi0, rfl, h⟩ | ⟨hi0, c1, c2, c3, c4, c5, rfl, h⟩
      · skip
        simp only [sls_cons, sls_one] at h
        refine vc_cut (At [(1, .ptr 0 1 0 0), (2, .ptr 1 1 0 0), (3, .ptr 2 1 0 0), (4, V.i i)] [B, .mem false [] [[nilS, nilS, .bool false, nilS]], .mem false [] [[vVars m.vars, nilS, .bool m.hasGoal, vTerms m.goal]], a, b]) (by simp -dsimp [h, At, hil, hB, Model.cells, vVars, vCons, vTerms, Con.cells, vInts, vIntss]) ?_
        try clear h
        rintro ⟨sl, hp, bs⟩ ⟨rfl, h⟩
        simp only [sls_cons, sls_one, sls_nil] at h
        refine vc_cut (fun st => ∃ c1 c2 c3 c4 c5 E, At [(1, .ptr 0 1 0 0), (2, .ptr 1 1 0 0), (3, .ptr 2 1 0 0), (4, V.i i)] ([B, .mem false [] [[nilS, nilS, .bool false, nilS]], .mem false [10] [[vVars m.vars, .own 10 10 0 (i + 1) (i + 1), .bool m.hasGoal, vTerms m.goal]], a, b, c1, c2, c3, c4, c5, .mem false [] ((m.cons.take (i + 1)).map Con.cells)] ++ E) st) ?_ ?_
        · refine vc_block_of ?_
          refine vc_cut (At [(1, .ptr 0 1 0 0), (2, .ptr 1 1 0 0), (3, .ptr 2 1 0 0), (4, V.i i), (5, .ptr 5 1 0 0)] [B, .mem false [] [[nilS, nilS, .bool false, nilS]], .mem false [] [[vVars m.vars, nilS, .bool m.hasGoal, vTerms m.goal]], a, b, .mem false [] [c.cells]]) (by simp -dsimp [h, At, hil, ← hcc, hB, Model.cells, vVars, vCons, vTerms, Con.cells, vInts, vIntss]) ?_
          try clear h
          rintro ⟨sl, hp, bs⟩ ⟨rfl, h⟩
          simp only [sls_cons, sls_one, sls_nil] at h
          refine vc_cut (fun st => ∃ g1, At [(1, .ptr 0 1 0 0), (2, .ptr 1 1 0 0), (3, .ptr 2 1 0 0), (4, V.i i), (5, .ptr 5 1 0 0)] [B, .mem false [] [[nilS, nilS, .bool false, nilS]], .mem false [] [[vVars m.vars, nilS, .bool m.hasGoal, vTerms m.goal]], a, b, .mem false [] [c.cells], g1] st) ?_ ?_
          · simp -dsimp [h, At, t1, Model.cells, vVars, vCons, vTerms, Con.cells, vInts, vIntss]
            omega
          rintro ⟨sl, hp, bs⟩ ⟨g1, rfl, h⟩; simp only [sls_cons, sls_one] at h
          refine vc_cut (fun st => ∃ g2, At [(1, .ptr 0 1 0 0), (2, .ptr 1 1 0 0), (3, .ptr 2 1 0 0), (4, V.i i), (5, .ptr 5 1 0 0)] [B, .mem false [] [[nilS, nilS, .bool false, nilS]], .mem false [] [[vVars m.vars, nilS, .bool m.hasGoal, vTerms m.goal]], a, b, .mem false [] [c.cells], g1, g2] st) ?_ ?_
          · simp -dsimp [h, At, t2, Model.cells, vVars, vCons, vTerms, Con.cells, vInts, vIntss]
            omega
          rintro ⟨sl, hp, bs⟩ ⟨g2, rfl, h⟩; simp only [sls_cons, sls_one] at h
          refine vc_cut (fun st => ∃ g3, At [(1, .ptr 0 1 0 0), (2, .ptr 1 1 0 0), (3, .ptr 2 1 0 0), (4, V.i i), (5, .ptr 5 1 0 0)] [B, .mem false [] [[nilS, nilS, .bool false, nilS]], .mem false [] [[vVars m.vars, nilS, .bool m.hasGoal, vTerms m.goal]], a, b, .mem false [] [c.cells], g1, g2, g3] st) ?_ ?_
          · simp -dsimp [h, At, t3, Model.cells, vVars, vCons, vTerms, Con.cells, vInts, vIntss]
            omega
          rintro ⟨sl, hp, bs⟩ ⟨g3, rfl, h⟩; simp only [sls_cons, sls_one] at h
          obtain rfl : i = 0 := hi0
          simp only [List.take_zero, List.map_nil, List.nil_append] at hT
          simp -dsimp [h, At, hT, Model.cells, vVars, vCons, vTerms, Con.cells, vInts, vIntss]
        rintro ⟨sl, hp, bs⟩ ⟨c1, c2, c3, c4, c5, E, rfl, h⟩; simp only [sls_cons, sls_one] at h
        simp -dsimp [h, At, hw, hil, hB, limO, Model.cells, vVars, vCons, vTerms, Con.cells, vInts, vIntss]
      · skip
        simp only [sls_cons, sls_one] at h
        refine vc_cut (At [(1, .ptr 0 1 0 0), (2, .ptr 1 1 0 0), (3, .ptr 2 1 0 0), (4, V.i i)] [B, .mem false [] [[nilS, nilS, .bool false, nilS]], .mem false [10] [[vVars m.vars, .own 10 10 0 (i) (i), .bool m.hasGoal, vTerms m.goal]], a, b, c1, c2, c3, c4, c5, .mem false [] ((m.cons.take (i)).map Con.cells)]) (by simp -dsimp [h, At, hil, hB, Model.cells, vVars, vCons, vTerms, Con.cells, vInts, vIntss]) ?_
        try clear h
        rintro ⟨sl, hp, bs⟩ ⟨rfl, h⟩
        simp only [sls_cons, sls_one, sls_nil] at h
        refine vc_cut (fun st => ∃ c1 c2 c3 c4 c5 E, At [(1, .ptr 0 1 0 0), (2, .ptr 1 1 0 0), (3, .ptr 2 1 0 0), (4, V.i i)] ([B, .mem false [] [[nilS, nilS, .bool false, nilS]], .mem false [10] [[vVars m.vars, .own 10 10 0 (i + 1) (i + 1), .bool m.hasGoal, vTerms m.goal]], a, b, c1, c2, c3, c4, c5, .mem false [] ((m.cons.take (i + 1)).map Con.cells)] ++ E) st) ?_ ?_
        · refine vc_block_of ?_
          refine vc_cut (At [(1, .ptr 0 1 0 0), (2, .ptr 1 1 0 0), (3, .ptr 2 1 0 0), (4, V.i i), (5, .ptr 11 1 0 0)] [B, .mem false [] [[nilS, nilS, .bool false, nilS]], .mem false [10] [[vVars m.vars, .own 10 10 0 (i) (i), .bool m.hasGoal, vTerms m.goal]], a, b, c1, c2, c3, c4, c5, .mem false [] ((m.cons.take (i)).map Con.cells), .mem false [] [c.cells]]) (by simp -dsimp [h, At, hil, ← hcc, hB, Model.cells, vVars, vCons, vTerms, Con.cells, vInts, vIntss]) ?_
          try clear h
          rintro ⟨sl, hp, bs⟩ ⟨rfl, h⟩
          simp only [sls_cons, sls_one, sls_nil] at h
          refine vc_cut (fun st => ∃ g1, At [(1, .ptr 0 1 0 0), (2, .ptr 1 1 0 0), (3, .ptr 2 1 0 0), (4, V.i i), (5, .ptr 11 1 0 0)] [B, .mem false [] [[nilS, nilS, .bool false, nilS]], .mem false [10] [[vVars m.vars, .own 10 10 0 (i) (i), .bool m.hasGoal, vTerms m.goal]], a, b, c1, c2, c3, c4, c5, .mem false [] ((m.cons.take (i)).map Con.cells), .mem false [] [c.cells], g1] st) ?_ ?_
          · simp -dsimp [h, At, t1, Model.cells, vVars, vCons, vTerms, Con.cells, vInts, vIntss]
            omega
          rintro ⟨sl, hp, bs⟩ ⟨g1, rfl, h⟩; simp only [sls_cons, sls_one] at h
          refine vc_cut (fun st => ∃ g2, At [(1, .ptr 0 1 0 0), (2, .ptr 1 1 0 0), (3, .ptr 2 1 0 0), (4, V.i i), (5, .ptr 11 1 0 0)] [B, .mem false [] [[nilS, nilS, .bool false, nilS]], .mem false [10] [[vVars m.vars, .own 10 10 0 (i) (i), .bool m.hasGoal, vTerms m.goal]], a, b, c1, c2, c3, c4, c5, .mem false [] ((m.cons.take (i)).map Con.cells), .mem false [] [c.cells], g1, g2] st) ?_ ?_
          · simp -dsimp [h, At, t2, Model.cells, vVars, vCons, vTerms, Con.cells, vInts, vIntss]
            omega
          rintro ⟨sl, hp, bs⟩ ⟨g2, rfl, h⟩; simp only [sls_cons, sls_one] at h
          refine vc_cut (fun st => ∃ g3, At [(1, .ptr 0 1 0 0), (2, .ptr 1 1 0 0), (3, .ptr 2 1 0 0), (4, V.i i), (5, .ptr 11 1 0 0)] [B, .mem false [] [[nilS, nilS, .bool false, nilS]], .mem false [10] [[vVars m.vars, .own 10 10 0 (i) (i), .bool m.hasGoal, vTerms m.goal]], a, b, c1, c2, c3, c4, c5, .mem false [] ((m.cons.take (i)).map Con.cells), .mem false [] [c.cells], g1, g2, g3] st) ?_ ?_
          · simp -dsimp [h, At, t3, Model.cells, vVars, vCons, vTerms, Con.cells, vInts, vIntss]
            omega
          rintro ⟨sl, hp, bs⟩ ⟨g3, rfl, h⟩; simp only [sls_cons, sls_one] at h
          rw [hT]
          generalize hR : (m.cons.take i).map Con.cells = R at *
          simp -dsimp [h, At, hTl, Model.cells, vVars, vCons, vTerms, Con.cells, vInts, vIntss]
          omega
        rintro ⟨sl, hp, bs⟩ ⟨c1, c2, c3, c4, c5, E, rfl, h⟩; simp only [sls_cons, sls_one] at h
        simp -dsimp [h, At, hw, hil, hB, limO, Model.cells, vVars, vCons, vTerms, Con.cells, vInts, vIntss]
    · have hil' : i = m.cons.length := by omega
      rcases hh with ⟨hi0, rfl, h⟩ | ⟨hi0, c1, c2, c3, c4, c5, rfl, h⟩
      · simp only [sls_cons, sls_one] at h
        simp -dsimp [h, At, hil, hB, Model.cells, vVars, vCons, vTerms, Con.cells, vInts, vIntss]
        exact List.length_eq_zero_iff.1 (by omega)
      · simp only [sls_cons, sls_one] at h
        subst hil'
        simp -dsimp [h, At, hil, hB, Model.cells, vVars, vCons, vTerms, Con.cells, vInts, vIntss]
        omega
  rintro ⟨sl, hp, bs⟩ ⟨a, b, ⟨hz, rfl, h⟩ | ⟨hz, c1, c2, c3, c4, c5, rfl, h⟩⟩
  · simp only [sls_cons, sls_one] at h
    simp -dsimp [h, hB, hallmarklaw11_copied.rs, Model.cells, vVars, vCons, vTerms, Con.cells, vInts, vIntss]
    exact List.length_eq_zero_iff.1 hz
  · simp only [sls_cons, sls_one] at h
    simp -dsimp [h, hB, hallmarklaw11_copied.rs, Model.cells, vVars, vCons, vTerms, Con.cells, vInts, vIntss]
    exact List.take_of_length_le (by simp)
end Go.Abs.G

namespace Go.Abs.G
open Go.Proofs
set_option linter.unusedVariables false
set_option linter.unusedSimpArgs false

theorem domOf_ok {v : Var} (h : VarOk v) : (domOf v).ok := fillTo_ok (dom0_ok h) _
theorem SG.new (m : Model) : SG (domsOf m) [] := by
  unfold domsOf
  split
  · next hz =>
    have hR : Right m := right_iff.1 (by simp [rightB, hz])
    refine ⟨⟨by rw [List.length_map]; have := hR.nv; omega, by simp, fun d hd => ?_⟩, by simp⟩
    obtain ⟨v, hv, rfl⟩ := List.mem_map.1 hd
    obtain ⟨i, hi⟩ := List.getElem?_of_mem hv
    exact domOf_ok (VarOk.of (hR.var i v hi))
  · exact ⟨⟨by simp, by simp, by simp⟩, by simp⟩

theorem SG.does {s : List Dom} {ms : List (List Dom)} (h : SG s ms) (o : DOp) (least : Int) (hk : ms.length + 1 ≤ 1000000) : SG (doesB (s, ms) o least).1 (doesB (s, ms) o least).2 ∧ (doesB (s, ms) o least).2.length ≤ ms.length + 1 := by
  unfold doesB
  split
  · exact ⟨h.cut _ _ _, Nat.le_succ _⟩
  · split
    · refine ⟨⟨⟨h.n, by simp; omega, h.d⟩, fun L hL => ?_⟩, by simp⟩
      rcases List.mem_append.1 hL with hL | hL
      · exact h.L L hL
      · simp at hL; subst hL; exact ⟨h.n, h.d⟩
    · split
      · split
        · split
          · next L e =>
            split at e
            · next h0 =>
              obtain ⟨h1, h2⟩ := h.L L (List.mem_of_getElem? e)
              refine ⟨⟨⟨h1, ?_, h2⟩, fun L' hL' => h.L L' (List.mem_of_mem_take hL')⟩, ?_⟩
              · show (ms.take _).length ≤ _
                rw [List.length_take]; exact Nat.le_trans (Nat.min_le_right _ _) h.k
              · show (ms.take _).length ≤ _
                rw [List.length_take]; have := Nat.min_le_right o.n.toNat ms.length; omega
            · cases e
          · exact ⟨h, Nat.le_succ _⟩
        · exact ⟨h, Nat.le_succ _⟩
      · exact ⟨h, Nat.le_succ _⟩

theorem does_take {s : List Dom} {ms : List (List Dom)} (o : DOp) (k : Nat) (hk : k + 1 ≤ ms.length) : k + 1 ≤ (doesB (s, ms) o ((k : Int) + 1)).2.length ∧ (doesB (s, ms) o ((k : Int) + 1)).2.take (k + 1) = ms.take (k + 1) := by
  unfold doesB
  split
  · exact ⟨hk, rfl⟩
  · split
    · exact ⟨by simp; omega, List.take_append_of_le_length hk⟩
    · split
      · split
        · split
          · next hle _ L e =>
            have hle : (k : Int) + 1 ≤ o.n := hle
            split at e
            · have := lt_of_get e
              exact ⟨by simp; omega, by simp only [List.take_take]; congr 1; omega⟩
            · cases e
          · exact ⟨hk, rfl⟩
        · exact ⟨hk, rfl⟩
      · exact ⟨hk, rfl⟩

theorem back_law (m : Model) (before between : List DOp) (hm : zModel m) (hb : before.length ≤ maxLen) (hb2 : between.length ≤ maxLen) : Pf Try.prog hallmarklaw11_DomBack.id [.agg m.cells, vOps before, vOps between] (.bool true) := by
  refine DC.of hallmarklaw11_DomBack.ok (by simp) ?_
  unfold hallmarklaw11_DomBack.ir
  obtain ⟨B, hB⟩ : ∃ B, B = O.mem false [] [m.cells] := ⟨_, rfl⟩
  refine vc_cut (At [(1, vOps before), (2, vOps between), (3, .ptr 0 1 0 0)] [B]) (by simp -dsimp [At, hB, Model.cells, vVars, vCons, vTerms]) ?_
  try clear h
  rintro ⟨sl, hp, bs⟩ ⟨rfl, h⟩
  simp only [sls_cons, sls_one, sls_nil] at h
  refine vc_cut (At [(1, vOps before), (2, vOps between), (3, .ptr 0 1 0 0)] [B]) ?_ ?_
  · simp -dsimp [h]
    refine gcall known_spec (by simp -dsimp [h]) (by simp -dsimp [h]) ?_
    simp -dsimp [h, At]
  try clear h
  rintro ⟨sl, hp, bs⟩ ⟨rfl, h⟩
  simp only [sls_cons, sls_one, sls_nil] at h
  refine vc_cut (fun st => Small m ∧ before.length ≤ 300 ∧ between.length ≤ 300 ∧ At [(1, vOps before), (2, vOps between), (3, .ptr 0 1 0 0)] [B] st) ?_ ?_
  · simp -dsimp [h, hB, Model.cells, vVars, vCons, vTerms]
    refine gcall_gen (small_spec m before hm) (by simp -dsimp [h, Model.cells, vVars, vCons, vTerms]) (by simp [Model.cells, vVars, vCons, vTerms, vOps]) ?_
    rintro r ⟨b, rfl, hs⟩
    cases b
    · simp -dsimp [h, hallmarklaw11_DomBack.rs]
    · simp -dsimp [h, hB, Model.cells, vVars, vCons, vTerms]
      refine gcall_gen (small_spec m between hm) (by simp -dsimp [h, Model.cells, vVars, vCons, vTerms]) (by simp [Model.cells, vVars, vCons, vTerms, vOps]) ?_
      rintro r ⟨b, rfl, hs2⟩
      cases b
      · simp -dsimp [h, hallmarklaw11_DomBack.rs]
      · simp -dsimp [h, At, hB, Model.cells, vVars, vCons, vTerms]
        exact ⟨(hs rfl).1, (hs rfl).2, (hs2 rfl).2⟩
  rintro ⟨sl, hp, bs⟩ ⟨hS, hl1, hl2, rfl, h⟩; simp only [sls_cons, sls_one] at h
  have hM : (1000000 : Nat) ≤ maxLen := by decide
  refine vc_cut (At [(1, vOps before), (2, vOps between), (7, .ptr 1 1 0 0)] [B, St1 (domsOf m) (mT [])]) ?_ ?_
  · simp -dsimp [h, hB, Model.cells, vVars, vCons, vTerms]
    refine gcall (copied_spec m hS) (by simp -dsimp [h, Model.cells, vVars, vCons, vTerms]) (by simp [Model.cells, vVars, vCons, vTerms]) ?_
    simp -dsimp [h, hB, Model.cells, vVars, vCons, vTerms]
    refine gcallo (newP1 m hm.1) (by simp -dsimp [h, Model.cells, vVars, vCons, vTerms]) (by simp [Model.cells, vVars, vCons, vTerms]) (by simp) ?_
    simp -dsimp [h, At, hB, Model.cells, vVars, vCons, vTerms]
  try clear h
  rintro ⟨sl, hp, bs⟩ ⟨rfl, h⟩
  simp only [sls_cons, sls_one, sls_nil] at h
  refine vc_cut (At [(1, vOps before), (2, vOps between), (7, .ptr 1 1 0 0)] [B, St1 (domsOf m) (mT [])]) (by simp -dsimp [h, At]) ?_
  try clear h
  rintro ⟨sl, hp, bs⟩ ⟨rfl, h⟩
  simp only [sls_cons, sls_one, sls_nil] at h
  refine vc_cut (fun st => ∃ s ms, SG s ms ∧ ms.length ≤ 300 ∧ At [(1, vOps before), (2, vOps between), (7, .ptr 1 1 0 0)] [B, St1 s (mT ms)] st) ?_ ?_
  · refine vc_cut (At [(1, vOps before), (2, vOps between), (7, .ptr 1 1 0 0), (8, V.i 0)] [B, St1 (domsOf m) (mT [])]) (by simp -dsimp [h, At]) ?_
    try clear h
    rintro ⟨sl, hp, bs⟩ ⟨rfl, h⟩
    simp only [sls_cons, sls_one, sls_nil] at h
    refine vc_block_of (vc_upto 2 (by simp) before.length (fun i st => ∃ s ms, SG s ms ∧ ms.length ≤ i ∧ At [(1, vOps before), (2, vOps between), (7, .ptr 1 1 0 0), (8, V.i i)] [B, St1 s (mT ms)] st) ⟨_, _, SG.new m, by simp, rfl, by simpa using h⟩ ?_)
    clear h
    rintro i ⟨sl, hp, bs⟩ hi ⟨s, ms, hs, hms, rfl, h⟩
    simp only [sls_cons, sls_one] at h
    unfold hallmarklaw11_DomBack.b0
    by_cases hil : i < before.length
    · have hw : IntKind.i64.wrap ((i : Int) + 1) = ((i + 1 : Nat) : Int) := by rw [wrap64] <;> omega
      obtain ⟨op, hop⟩ : ∃ op, op = before[i] := ⟨_, rfl⟩
      obtain ⟨hs', hms'⟩ := hs.does op 0 (by omega)
      refine vc_cut (At [(1, vOps before), (2, vOps between), (7, .ptr 1 1 0 0), (8, V.i i)] [B, St1 s (mT ms)]) (by simp -dsimp [h, At, hil, vOps]) ?_
      try clear h
      rintro ⟨sl, hp, bs⟩ ⟨rfl, h⟩
      simp only [sls_cons, sls_one, sls_nil] at h
      refine vc_cut (At [(1, vOps before), (2, vOps between), (7, .ptr 1 1 0 0), (8, V.i i)] [B, St1 (doesB (s, ms) op 0).1 (mT (doesB (s, ms) op 0).2)]) ?_ ?_
      · refine vc_block_of ?_
        simp -dsimp [h, hil, vOps, ← hop, DOp.cells]
        refine gcallm1 (does_spec hs op 0) 1 (by simp -dsimp [h, addAll]) (by simp -dsimp [h]) (by simp) (by simp) (by simp) (by simp -dsimp [h, idx, DOp.cells]) (by simp) ?_
        simp -dsimp [h, At]
      try clear h
      rintro ⟨sl, hp, bs⟩ ⟨rfl, h⟩
      simp only [sls_cons, sls_one, sls_nil] at h
      simp -dsimp [h, At, hw, hil, hB, limO, vOps]
      exact ⟨_, _, hs', by omega, rfl⟩
    · have hil' : i = before.length := by omega
      subst hil'
      simp -dsimp [h, At, vOps]
      exact ⟨_, _, hs, by omega, rfl⟩
  clear h
  rintro ⟨sl, hp, bs⟩ ⟨s, ms, hs, hms, rfl, h⟩; simp only [sls_cons, sls_one] at h
  refine vc_cut (At [(2, vOps between), (7, .ptr 1 1 0 0), (9, .ptr 2 1 0 0)] [B, St1 s (mT ms), St1 s (mT ms)]) ?_ ?_
  · simp -dsimp [h]
    refine gcallm1 (copy_packed hs.n hs.k fun L hL => (hs.L L hL).1) 1 (by simp -dsimp [h, addAll]) (by simp -dsimp [h]) (by simp) (by simp) (by simp) (by simp -dsimp [h, idx]) (by simp) ?_
    simp -dsimp [h, At]
  try clear h
  rintro ⟨sl, hp, bs⟩ ⟨rfl, h⟩
  simp only [sls_cons, sls_one, sls_nil] at h
  obtain ⟨k, hk⟩ : ∃ k, k = ms.length := ⟨_, rfl⟩
  refine vc_cut (At [(2, vOps between), (7, .ptr 1 1 0 0), (9, .ptr 2 1 0 0), (10, V.i k)] [B, St1 s (mT (ms ++ [s])), St1 s (mT ms)]) ?_ ?_
  · simp -dsimp [h]
    refine gcallm1 (mark_packed hs.n hs.k) 1 (by simp -dsimp [h, addAll]) (by simp -dsimp [h]) (by simp) (by simp) (by simp) (by simp -dsimp [h, idx]) (by simp) ?_
    simp -dsimp [h, At, hk]
  try clear h
  rintro ⟨sl, hp, bs⟩ ⟨rfl, h⟩
  simp only [sls_cons, sls_one, sls_nil] at h
  have hs1 : SG s (ms ++ [s]) := ⟨⟨hs.n, by simp; omega, hs.d⟩, fun L hL => by
    rcases List.mem_append.1 hL with hL | hL
    · exact hs.L L hL
    · simp at hL; subst hL; exact ⟨hs.n, hs.d⟩⟩
  have hwk : IntKind.i64.wrap ((k : Int) + 1) = (k : Int) + 1 := by rw [wrap64] <;> omega
  refine vc_cut (fun st => ∃ s' ms', SG s' ms' ∧ k + 1 ≤ ms'.length ∧ ms'.take (k + 1) = ms ++ [s] ∧ At [(7, .ptr 1 1 0 0), (9, .ptr 2 1 0 0), (10, V.i k)] [B, St1 s' (mT ms'), St1 s (mT ms)] st) ?_ ?_
  · refine vc_cut (At [(2, vOps between), (7, .ptr 1 1 0 0), (9, .ptr 2 1 0 0), (10, V.i k), (11, V.i 0)] [B, St1 s (mT (ms ++ [s])), St1 s (mT ms)]) (by simp -dsimp [h, At]) ?_
    try clear h
    rintro ⟨sl, hp, bs⟩ ⟨rfl, h⟩
    simp only [sls_cons, sls_one, sls_nil] at h
    refine vc_block_of (vc_upto 3 (by simp) between.length (fun i st => ∃ s' ms', SG s' ms' ∧ ms'.length ≤ k + 1 + i ∧ k + 1 ≤ ms'.length ∧ ms'.take (k + 1) = ms ++ [s] ∧ At [(2, vOps between), (7, .ptr 1 1 0 0), (9, .ptr 2 1 0 0), (10, V.i k), (11, V.i i)] [B, St1 s' (mT ms'), St1 s (mT ms)] st) ⟨_, _, hs1, by simp [hk], by simp [hk], by rw [hk]; exact List.take_of_length_le (by simp), rfl, by simpa using h⟩ ?_)
    clear h
    rintro i ⟨sl, hp, bs⟩ hi ⟨s', ms', hs', hlen, hk1, hk2, rfl, h⟩
    simp only [sls_cons, sls_one] at h
    unfold hallmarklaw11_DomBack.b1
    by_cases hil : i < between.length
    · have hw : IntKind.i64.wrap ((i : Int) + 1) = ((i + 1 : Nat) : Int) := by rw [wrap64] <;> omega
      obtain ⟨op, hop⟩ : ∃ op, op = between[i] := ⟨_, rfl⟩
      obtain ⟨hs2, hms2⟩ := hs'.does op ((k : Int) + 1) (by omega)
      obtain ⟨hk3, hk4⟩ := does_take (s := s') op k hk1
      refine vc_cut (At [(2, vOps between), (7, .ptr 1 1 0 0), (9, .ptr 2 1 0 0), (10, V.i k), (11, V.i i)] [B, St1 s' (mT ms'), St1 s (mT ms)]) (by simp -dsimp [h, At, hil, vOps]) ?_
      try clear h
      rintro ⟨sl, hp, bs⟩ ⟨rfl, h⟩
      simp only [sls_cons, sls_one, sls_nil] at h
      refine vc_cut (At [(2, vOps between), (7, .ptr 1 1 0 0), (9, .ptr 2 1 0 0), (10, V.i k), (11, V.i i)] [B, St1 (doesB (s', ms') op ((k : Int) + 1)).1 (mT (doesB (s', ms') op ((k : Int) + 1)).2), St1 s (mT ms)]) ?_ ?_
      · refine vc_block_of ?_
        simp -dsimp [h, hil, vOps, ← hop, DOp.cells, hwk]
        refine gcallm1 (does_spec hs' op ((k : Int) + 1)) 1 (by simp -dsimp [h, addAll]) (by simp -dsimp [h]) (by simp) (by simp) (by simp) (by simp -dsimp [h, idx, DOp.cells]) (by simp) ?_
        simp -dsimp [h, At]
      try clear h
      rintro ⟨sl, hp, bs⟩ ⟨rfl, h⟩
      simp only [sls_cons, sls_one, sls_nil] at h
      simp -dsimp [h, At, hw, hil, hB, limO, vOps]
      exact ⟨_, _, hs2, by omega, hk3, by rw [hk4, hk2], rfl⟩
    · have hil' : i = between.length := by omega
      subst hil'
      simp -dsimp [h, At, vOps]
      exact ⟨_, _, hs', hk1, hk2, rfl⟩
  clear h
  rintro ⟨sl, hp, bs⟩ ⟨s', ms', hs', hk1, hk2, rfl, h⟩; simp only [sls_cons, sls_one] at h
  have hg : ms'[k]? = some s := by
    have h1 : (ms'.take (k + 1))[k]? = some s := by rw [hk2, hk]; simp
    rw [List.getElem?_take, if_pos (by omega)] at h1; exact h1
  have ht : ms'.take k = ms := by
    have h1 : (ms'.take (k + 1)).take k = (ms ++ [s]).take k := by rw [hk2]
    rw [List.take_take, Nat.min_eq_left (by omega), List.take_append_of_le_length (by omega), hk, List.take_length] at h1
    rw [hk]; exact h1
  have hb1 := back_yes (s := s') (L := s) (i := k) hs'.k hg
  rw [ht] at hb1
  have hb2 := back_no (s := s) (ms := ms) hs.k (k : Int) (by omega)
  have hsame := samePP hs.toSOk hs.toSOk
  rw [sameB_self] at hsame
  simp -dsimp [h]
  refine gcallm1 hb1 1 (by simp -dsimp [h, addAll]) (by simp -dsimp [h]) (by simp) (by simp) (by simp) (by simp -dsimp [h, idx]) (by simp) ?_
  simp -dsimp [h]
  refine gcallm2 hsame 1 2 (by simp) (by simp -dsimp [h, addAll]) (by simp -dsimp [h]) (by simp -dsimp [h]) (by simp) (by simp) (by simp -dsimp [h, idx]; rfl) (by simp) ?_
  simp -dsimp [h]
  refine gcallm1 hb2 1 (by simp -dsimp [h, addAll]) (by simp -dsimp [h]) (by simp) (by simp) (by simp) (by simp -dsimp [h, idx]) (by simp) ?_
  simp -dsimp [h, hallmarklaw11_DomBack.rs]
end Go.Abs.G

namespace Go.Abs.G
open Go.Proofs
set_option linter.unusedVariables false
set_option linter.unusedSimpArgs false

@[simp] theorem vCuts_ids (l : List DCut) : (vCuts l).ids = [] := rfl
def tailD : Nat → C → C
  | 0, c => c
  | n + 1, .seq _ b => tailD n b
  | _ + 1, c => c
theorem other_take {l : List DCut} {k i : Nat} (h : i < l.length) : ((other l k).take (i + 1)) = (other l k).take i ++ [oth l k i] := by
  have hl : (other l k).length = l.length := by simp [other]
  have := List.take_succ_eq_append_getElem (l := other l k) (i := i) (by omega)
  rw [this]
  simp [other]
theorem tmod_range (t : Int) {n : Nat} (hn : 0 < n) : ∃ k : Nat, k < n ∧ (t.tmod n + n).tmod n = (k : Int) ∧ 0 ≤ t.tmod n + n ∧ t.tmod n + n ≤ 2 * n := by
  have h1 := Int.tmod_lt_of_pos t (show (0 : Int) < n by omega)
  have h2 : -(n : Int) < t.tmod n := by
    have := Int.lt_tmod_of_pos t (show (0 : Int) < n by omega)
    exact this
  have h3 : 0 ≤ t.tmod n + n := by omega
  obtain ⟨a, ha⟩ := Int.eq_ofNat_of_zero_le h3
  refine ⟨a % n, Nat.mod_lt _ hn, ?_, h3, by omega⟩
  rw [ha, Int.tmod_eq_emod_of_nonneg (by omega)]
  rfl

theorem SG.cuts {s : List Dom} {ms : List (List Dom)} (h : SG s ms) (l : List DCut) : SG (cutsB s l).1 ms := by
  induction l generalizing s with
  | nil => exact h
  | cons c l ih =>
    unfold cutsB
    split
    · exact ih (h.cut _ _ _)
    · exact h.cut _ _ _

theorem order_law (m : Model) (l : List DCut) (turn : Int) (hm : zModel m) (hl : l.length ≤ maxLen) : Pf Try.prog hallmarklaw11_DomOrder.id [.agg m.cells, vCuts l, V.i turn] (.bool true) := by
  refine DC.of hallmarklaw11_DomOrder.ok (by simp) ?_
  unfold hallmarklaw11_DomOrder.ir
  obtain ⟨B, hB⟩ : ∃ B, B = O.mem false [] [m.cells] := ⟨_, rfl⟩
  refine vc_cut (At [(1, vCuts l), (2, V.i turn), (3, .ptr 0 1 0 0)] [B]) (by simp -dsimp [At, hB, Model.cells, vVars, vCons, vTerms]) ?_
  try clear h
  rintro ⟨sl, hp, bs⟩ ⟨rfl, h⟩
  simp only [sls_cons, sls_one, sls_nil] at h
  refine vc_cut (At [(1, vCuts l), (2, V.i turn), (3, .ptr 0 1 0 0)] [B]) ?_ ?_
  · simp -dsimp [h]
    refine gcall known_spec (by simp -dsimp [h]) (by simp -dsimp [h]) ?_
    simp -dsimp [h, At]
  try clear h
  rintro ⟨sl, hp, bs⟩ ⟨rfl, h⟩
  simp only [sls_cons, sls_one, sls_nil] at h
  refine vc_cut (fun st => Small m ∧ l.length ≤ 300 ∧ At [(1, vCuts l), (2, V.i turn), (3, .ptr 0 1 0 0)] [B] st) ?_ ?_
  · simp -dsimp [h, hB, Model.cells, vVars, vCons, vTerms]
    refine gcall_gen (DP.sub (ys := [.agg m.cells, vOps []]) (.cons (.refl _) (.cons (.nil 5) .nil)) (small_spec m [] hm)) (by simp -dsimp [h, Model.cells, vVars, vCons, vTerms]) (by simp [Model.cells, vVars, vCons, vTerms]) ?_
    rintro r ⟨b, rfl, hs⟩
    cases b
    · simp -dsimp [h, hallmarklaw11_DomOrder.rs]
    · by_cases hl3 : l.length ≤ 300
      · have hl3' : ¬ (300 : Int) < l.length := by omega
        simp -dsimp [h, At, hB, hl3, hl3', vCuts, Model.cells, vVars, vCons, vTerms]
        exact (hs rfl).1
      · have hl3' : (300 : Int) < l.length := by omega
        simp -dsimp [h, hl3, hl3', vCuts, hallmarklaw11_DomOrder.rs]
  rintro ⟨sl, hp, bs⟩ ⟨hS, hl3, rfl, h⟩; simp only [sls_cons, sls_one] at h
  obtain ⟨s, hs0⟩ : ∃ s, s = domsOf m := ⟨_, rfl⟩
  have hnew := newP1 m hm.1
  have hsg := SG.new m
  rw [← hs0] at hnew hsg
  refine vc_cut (At [(1, vCuts l), (2, V.i turn), (3, .ptr 0 1 0 0), (7, .ptr 1 1 0 0), (8, .ptr 2 1 0 0)] [B, St1 s (mT []), St1 s (mT [])]) ?_ ?_
  · simp -dsimp [h, hB, Model.cells, vVars, vCons, vTerms]
    refine gcall (copied_spec m hS) (by simp -dsimp [h, Model.cells, vVars, vCons, vTerms]) (by simp [Model.cells, vVars, vCons, vTerms]) ?_
    simp -dsimp [h, hB, Model.cells, vVars, vCons, vTerms]
    refine gcallo hnew (by simp -dsimp [h, Model.cells, vVars, vCons, vTerms]) (by simp [Model.cells, vVars, vCons, vTerms]) (by simp) ?_
    simp -dsimp [h, hB, Model.cells, vVars, vCons, vTerms]
    refine gcall (copied_spec m hS) (by simp -dsimp [h, Model.cells, vVars, vCons, vTerms]) (by simp [Model.cells, vVars, vCons, vTerms]) ?_
    simp -dsimp [h, hB, Model.cells, vVars, vCons, vTerms]
    refine gcallo hnew (by simp -dsimp [h, Model.cells, vVars, vCons, vTerms]) (by simp [Model.cells, vVars, vCons, vTerms]) (by simp) ?_
    simp -dsimp [h, At, hB, Model.cells, vVars, vCons, vTerms]
  try clear h
  rintro ⟨sl, hp, bs⟩ ⟨rfl, h⟩
  simp only [sls_cons, sls_one, sls_nil] at h
  refine vc_cut (At [(1, vCuts l), (2, V.i turn), (3, .ptr 0 1 0 0), (7, .ptr 1 1 0 0), (8, .ptr 2 1 0 0)] [B, St1 s (mT []), St1 s (mT [])]) (by simp -dsimp [h, At]) ?_
  try clear h
  rintro ⟨sl, hp, bs⟩ ⟨rfl, h⟩
  simp only [sls_cons, sls_one, sls_nil] at h
  refine vc_cut (At [(1, vCuts l), (2, V.i turn), (3, .ptr 0 1 0 0), (7, .ptr 1 1 0 0), (8, .ptr 2 1 0 0), (9, nilS)] [B, St1 s (mT []), St1 s (mT [])]) (by simp -dsimp [h, At]) ?_
  try clear h
  rintro ⟨sl, hp, bs⟩ ⟨rfl, h⟩
  simp only [sls_cons, sls_one, sls_nil] at h
  refine vc_cut (At [(1, vCuts l), (2, V.i turn), (3, .ptr 0 1 0 0), (7, .ptr 1 1 0 0), (8, .ptr 2 1 0 0), (9, nilS), (10, V.i 0)] [B, St1 s (mT []), St1 s (mT [])]) (by simp -dsimp [h, At]) ?_
  try clear h
  rintro ⟨sl, hp, bs⟩ ⟨rfl, h⟩
  simp only [sls_cons, sls_one, sls_nil] at h
  refine vc_cut (fun st => ∃ k : Nat, k ≤ l.length ∧ (0 < l.length → k < l.length) ∧ At [(1, vCuts l), (3, .ptr 0 1 0 0), (7, .ptr 1 1 0 0), (8, .ptr 2 1 0 0), (9, nilS), (10, V.i k)] [B, St1 s (mT []), St1 s (mT [])] st) ?_ ?_
  · by_cases h0 : 0 < l.length
    · obtain ⟨k, hk, e1, e2, e3⟩ := tmod_range turn h0
      have hne : ¬ l = [] := by intro e; rw [e] at h0; simp at h0
      have hw : IntKind.i64.wrap (turn.tmod l.length + l.length) = turn.tmod l.length + l.length := by rw [wrap64] <;> omega
      simp -dsimp [h, At, h0, hne, vCuts, hw, e1]
      exact ⟨k, by omega, hk, rfl⟩
    · have hne : l = [] := List.length_eq_zero_iff.1 (by omega)
      subst hne
      simp -dsimp [h, At, vCuts]
  rintro ⟨sl, hp, bs⟩ ⟨k, hk, hk2, rfl, h⟩; simp only [sls_cons, sls_one] at h
  obtain ⟨L, hL⟩ : ∃ L, L = other l k := ⟨_, rfl⟩
  have hLl : L.length = l.length := by rw [hL]; simp [other]
  refine vc_cut (fun st => (L = [] ∧ At [(1, vCuts l), (3, .ptr 0 1 0 0), (7, .ptr 1 1 0 0), (8, .ptr 2 1 0 0), (9, nilS)] [B, St1 s (mT []), St1 s (mT [])] st) ∨ (At [(1, vCuts l), (3, .ptr 0 1 0 0), (7, .ptr 1 1 0 0), (8, .ptr 2 1 0 0), (9, .own 4 3 0 L.length L.length)] [B, St1 s (mT []), St1 s (mT []), .res, .mem false [] (L.map DCut.cells)] st)) ?_ ?_
  · refine vc_cut (At [(1, vCuts l), (3, .ptr 0 1 0 0), (7, .ptr 1 1 0 0), (8, .ptr 2 1 0 0), (9, nilS), (10, V.i k), (11, V.i 0)] [B, St1 s (mT []), St1 s (mT [])]) (by simp -dsimp [h, At]) ?_
    try clear h
    rintro ⟨sl, hp, bs⟩ ⟨rfl, h⟩
    simp only [sls_cons, sls_one, sls_nil] at h
    refine vc_block_of (vc_upto 5 (by simp) l.length (fun i st => (i = 0 ∧ At [(1, vCuts l), (3, .ptr 0 1 0 0), (7, .ptr 1 1 0 0), (8, .ptr 2 1 0 0), (9, nilS), (10, V.i k), (11, V.i i)] [B, St1 s (mT []), St1 s (mT [])] st) ∨ (0 < i ∧ At [(1, vCuts l), (3, .ptr 0 1 0 0), (7, .ptr 1 1 0 0), (8, .ptr 2 1 0 0), (9, .own 4 3 0 i i), (10, V.i k), (11, V.i i)] [B, St1 s (mT []), St1 s (mT []), .res, .mem false [] ((L.take i).map DCut.cells)] st)) (.inl ⟨rfl, rfl, by simpa using h⟩) ?_)
    clear h
    rintro i ⟨sl, hp, bs⟩ hi hh
    unfold hallmarklaw11_DomOrder.b0
    by_cases hil : i < l.length
    · have hw : IntKind.i64.wrap ((i : Int) + 1) = ((i + 1 : Nat) : Int) := by rw [wrap64] <;> omega
      have hw1 : IntKind.i64.wrap ((i : Int) + k) = (i : Int) + k := by rw [wrap64] <;> omega
      have hw2 : IntKind.i64.wrap ((l.length : Int) - 1) = ((l.length - 1 : Nat) : Int) := by rw [wrap64] <;> omega
      have hmod : ((i + k : Nat) : Int).tmod l.length = (((i + k) % l.length : Nat) : Int) := by rw [Int.tmod_eq_emod_of_nonneg (by omega)]; rfl
      have hml := Nat.mod_lt (i + k) (show 0 < l.length by omega)
      have hw3 : IntKind.i64.wrap (((l.length - 1 : Nat) : Int) - (((i + k) % l.length : Nat) : Int)) = ((l.length - 1 - (i + k) % l.length : Nat) : Int) := by rw [wrap64] <;> omega
      obtain ⟨q, hq⟩ : ∃ q, q = l.length - 1 - (i + k) % l.length := ⟨_, rfl⟩
      have hql : q < l.length := by omega
      have hoth : oth l k i = l[q] := by unfold oth; rw [← hq]; simp [List.getD, hql]
      have hw4 : IntKind.i64.wrap (((l.length - 1 : Nat) : Int) - ((i : Int) + (k : Int)).tmod l.length) = (q : Int) := by
        have e : (i : Int) + (k : Int) = ((i + k : Nat) : Int) := by omega
        rw [e, hmod, hw3, hq]
      have hne : ¬ l = [] := by intro e; rw [e] at hil; simp at hil
      have hT : (L.take (i + 1)).map DCut.cells = (L.take i).map DCut.cells ++ [l[q].cells] := by rw [hL, other_take hil, List.map_append, hoth]; rfl
      have hTl : ((L.take i).map DCut.cells).length = i := by simp; omega
      rcases hh with ⟨hi0, rfl, h⟩ | ⟨hi0, rfl, h⟩
      · simp only [sls_cons, sls_one] at h
        refine vc_cut (At [(1, vCuts l), (3, .ptr 0 1 0 0), (7, .ptr 1 1 0 0), (8, .ptr 2 1 0 0), (9, nilS), (10, V.i k), (11, V.i i)] [B, St1 s (mT []), St1 s (mT [])]) (by simp -dsimp [h, At, hil, vCuts]) ?_
        try clear h
        rintro ⟨sl, hp, bs⟩ ⟨rfl, h⟩
        simp only [sls_cons, sls_one, sls_nil] at h
        refine vc_cut (At [(1, vCuts l), (3, .ptr 0 1 0 0), (7, .ptr 1 1 0 0), (8, .ptr 2 1 0 0), (9, .own 4 3 0 (i + 1) (i + 1)), (10, V.i k), (11, V.i i)] [B, St1 s (mT []), St1 s (mT []), .res, .mem false [] ((L.take (i + 1)).map DCut.cells)]) ?_ ?_
        · refine vc_block_of ?_
          rw [hT]
          simp -dsimp [h, At, hne, vCuts, hw1, hw2, hw4, hql, DCut.cells]
          simp [hi0]
        rintro ⟨sl, hp, bs⟩ ⟨rfl, h⟩; simp only [sls_cons, sls_one] at h
        simp -dsimp [h, At, hw, hil, vCuts, hB, limO, Model.cells, vVars, vCons, vTerms]
      · simp only [sls_cons, sls_one] at h
        refine vc_cut (At [(1, vCuts l), (3, .ptr 0 1 0 0), (7, .ptr 1 1 0 0), (8, .ptr 2 1 0 0), (9, .own 4 3 0 i i), (10, V.i k), (11, V.i i)] [B, St1 s (mT []), St1 s (mT []), .res, .mem false [] ((L.take i).map DCut.cells)]) (by simp -dsimp [h, At, hil, vCuts]) ?_
        try clear h
        rintro ⟨sl, hp, bs⟩ ⟨rfl, h⟩
        simp only [sls_cons, sls_one, sls_nil] at h
        refine vc_cut (fun st => ∃ E, At [(1, vCuts l), (3, .ptr 0 1 0 0), (7, .ptr 1 1 0 0), (8, .ptr 2 1 0 0), (9, .own 4 3 0 (i + 1) (i + 1)), (10, V.i k), (11, V.i i)] ([B, St1 s (mT []), St1 s (mT []), .res, .mem false [] ((L.take (i + 1)).map DCut.cells)] ++ E) st) ?_ ?_
        · refine vc_block_of ?_
          rw [hT]
          generalize (L.take i).map DCut.cells = R at *
          simp -dsimp [h, At, hil, hne, vCuts, hw1, hw2, hw4, hql, DCut.cells, hTl]
          omega
        rintro ⟨sl, hp, bs⟩ ⟨E, rfl, h⟩; simp only [sls_cons, sls_one] at h
        simp -dsimp [h, At, hw, hil, vCuts, hB, limO, Model.cells, vVars, vCons, vTerms]
    · have hil' : i = l.length := by omega
      rcases hh with ⟨hi0, rfl, h⟩ | ⟨hi0, rfl, h⟩
      · simp only [sls_cons, sls_one] at h
        simp -dsimp [h, At, hil, vCuts]
        exact List.length_eq_zero_iff.1 (by omega)
      · simp only [sls_cons, sls_one] at h
        have ht : L.take i = L := List.take_of_length_le (by omega)
        rw [ht]
        simp -dsimp [h, At, hil, vCuts]
        omega
  have hmem := other_mem l hk
  rw [← hL] at hmem
  have hM : (1000000 : Nat) ≤ maxLen := by decide
  have hs1 : SG (cutsB s l).1 [] := hsg.cuts l
  have hs2 : SG (cutsB s L).1 [] := hsg.cuts L
  have tk : List.take L.length (L.map DCut.cells) = L.map DCut.cells := List.take_of_length_le (by simp)
  -- the cuts, in both orders
  have main : ∀ (E : List O), E.map (limO (3 + E.length)) = E → ∀ (sl : Sl) (bs : Nat), (gt sl 1 = vCuts l ∧ gt sl 3 = .ptr 0 1 0 0 ∧ gt sl 7 = .ptr 1 1 0 0 ∧ gt sl 8 = .ptr 2 1 0 0) → (cutsB s l).2 = true → (cutsB s L).2 = true →
      vc Try.prog (tailD 10 hallmarklaw11_DomOrder.ir) (fun e s => match e with | .exit _ => False | _ => resP s hallmarklaw11_DomOrder.rs ∧ (resV s hallmarklaw11_DomOrder.rs).fzP s.hp ∧ (resV s hallmarklaw11_DomOrder.rs).fz s.hp = .bool true) ⟨sl, B :: St1 (cutsB s l).1 (mT []) :: St1 (cutsB s L).1 (mT []) :: E, bs⟩ := by
    intro E hE sl bs h y1 y2
    unfold hallmarklaw11_DomOrder.ir
    simp only [tailD]
    obtain ⟨m1, m2⟩ := order_math (s := s) hsg.d (by rw [hs0]; exact doms_ne m) hmem y1 y2
    have hsame := samePP hs1.toSOk hs2.toSOk
    rw [m1] at hsame
    have hcuts := cuts_spec hs1 l hl
    rw [m2] at hcuts
    have hlen : (cutsB s l).1.length = s.length := (cuts_after l s hsg.d y1).1
    refine vc_cut (At [(1, vCuts l), (3, .ptr 0 1 0 0), (7, .ptr 1 1 0 0)] (B :: St1 (cutsB s l).1 (mT []) :: St1 (cutsB s L).1 (mT []) :: E)) ?_ ?_
    · simp -dsimp [h]
      refine gcallm2 hsame 1 2 (by simp) (by simp -dsimp [h, addAll]) (by simp -dsimp [h]) (by simp -dsimp [h]) (by simp) (by simp) (by simp -dsimp [h, idx]; rfl) (by simp) ?_
      simp -dsimp [h]
      refine gcallm1 hcuts 1 (by simp -dsimp [h, addAll]) (by simp -dsimp [h]) (by simp) (by simp) (by simp) (by simp -dsimp [h, idx, vCuts]) (by simp) ?_
      simp -dsimp [h]
      refine gcallm2 hsame 1 2 (by simp) (by simp -dsimp [h, addAll]) (by simp -dsimp [h]) (by simp -dsimp [h]) (by simp) (by simp) (by simp -dsimp [h, idx]; rfl) (by simp) ?_
      simp -dsimp [h, At]
    try clear h
    rintro ⟨sl, hp, bs⟩ ⟨rfl, h⟩
    simp only [sls_cons, sls_one, sls_nil] at h
    refine vc_cut (fun _ => True) ?_ ?_
    · refine vc_cut (At [(1, vCuts l), (3, .ptr 0 1 0 0), (7, .ptr 1 1 0 0), (12, V.i 0)] (B :: St1 (cutsB s l).1 (mT []) :: St1 (cutsB s L).1 (mT []) :: E)) (by simp -dsimp [h, At]) ?_
      try clear h
      rintro ⟨sl, hp, bs⟩ ⟨rfl, h⟩
      simp only [sls_cons, sls_one, sls_nil] at h
      have hsm : s.length ≤ m.vars.length := by
        rw [hs0]; unfold domsOf; split <;> simp
      have hxm : ∀ x, x < (cutsB s l).1.length → x < m.vars.length ∧ ∃ hz : (checkB m).2 = 0, True := fun x hx => by
        rw [hlen] at hx
        refine ⟨by omega, ?_⟩
        rw [hs0] at hx
        unfold domsOf at hx
        split at hx
        · next hz => exact ⟨hz, trivial⟩
        · simp at hx
      have hvo : ∀ x (hx : x < (cutsB s l).1.length), ∃ hx2 : x < m.vars.length, VarOk m.vars[x] := fun x hx => by
        obtain ⟨h1, hz, _⟩ := hxm x hx
        have hR : Right m := right_iff.1 (by simp [rightB, hz])
        exact ⟨h1, VarOk.of (hR.var x _ (List.getElem?_eq_getElem h1))⟩
      subst hB
      refine vc_block_of (order_b1 hs1.toSOk hl3 _ E (by omega) (fun x hx => ?_) (fun x hx w w1 w2 => ?_) (3 + E.length) (by simp; omega) ?_ ⟨rfl, by simpa using h⟩ fun st' => trivial)
      · obtain ⟨_, hv⟩ := hvo x hx
        exact ⟨hv.lo.1, hv.hi.2⟩
      · obtain ⟨hx2, hv⟩ := hvo x hx
        have hok := hsg.d
        rw [hs0] at hok y1 ⊢
        rw [hlen, hs0] at hx
        exact order_has hok y1 hx hx2 ⟨w1, w2⟩
      · simp [hE, limO, O.refs, St1_lim]
    · rintro ⟨sl, hp, bs⟩ _
      simp -dsimp [hallmarklaw11_DomOrder.rs]
  clear h
  rintro ⟨sl, hp, bs⟩ (⟨hL0, rfl, h⟩ | ⟨rfl, h⟩)
  · simp only [sls_cons, sls_one] at h
    refine vc_cut (fun st => (cutsB s l).2 = true ∧ (cutsB s L).2 = true ∧ At [(1, vCuts l), (3, .ptr 0 1 0 0), (7, .ptr 1 1 0 0), (8, .ptr 2 1 0 0)] [B, St1 (cutsB s l).1 (mT []), St1 (cutsB s L).1 (mT [])] st) ?_ ?_
    · simp -dsimp [h]
      refine gcallm1 (cuts_spec hsg l hl) 1 (by simp -dsimp [h, addAll]) (by simp -dsimp [h]) (by simp) (by simp) (by simp) (by simp -dsimp [h, idx, vCuts]) (by simp) ?_
      cases y1 : (cutsB s l).2
      · simp -dsimp [h, hallmarklaw11_DomOrder.rs]
      · simp -dsimp [h]
        refine gcallm1 (cuts_spec hsg L (by omega)) 2 (by simp -dsimp [h, addAll]) (by simp -dsimp [h]) (by simp) (by simp) (by simp) (by simp -dsimp [h, idx, vCuts, hL0]) (by simp) ?_
        cases y2 : (cutsB s L).2
        · simp -dsimp [h, hallmarklaw11_DomOrder.rs]
        · simp -dsimp [h, At]
    rintro ⟨sl, hp, bs⟩ ⟨y1, y2, rfl, h⟩; simp only [sls_cons, sls_one] at h
    exact main [] rfl _ _ h y1 y2
  · simp only [sls_cons, sls_one] at h
    refine vc_cut (fun st => (cutsB s l).2 = true ∧ (cutsB s L).2 = true ∧ At [(1, vCuts l), (3, .ptr 0 1 0 0), (7, .ptr 1 1 0 0), (8, .ptr 2 1 0 0)] [B, St1 (cutsB s l).1 (mT []), St1 (cutsB s L).1 (mT []), .res, .mem true [] (L.map DCut.cells)] st) ?_ ?_
    · simp -dsimp [h, tk]
      refine gcallm1 (cuts_spec hsg l hl) 1 (by simp -dsimp [h, addAll]) (by simp -dsimp [h]) (by simp) (by simp) (by simp) (by simp -dsimp [h, idx, vCuts]) (by simp) ?_
      cases y1 : (cutsB s l).2
      · simp -dsimp [h, hallmarklaw11_DomOrder.rs]
      · simp -dsimp [h]
        refine gcallm1 (cuts_spec hsg L (by omega)) 2 (by simp -dsimp [h, addAll]) (by simp -dsimp [h]) (by simp) (by simp) (by simp) (by simp -dsimp [h, idx, vCuts]) (by simp) ?_
        cases y2 : (cutsB s L).2
        · simp -dsimp [h, hallmarklaw11_DomOrder.rs]
        · simp -dsimp [h, At]
    rintro ⟨sl, hp, bs⟩ ⟨y1, y2, rfl, h⟩; simp only [sls_cons, sls_one] at h
    exact main [.res, .mem true [] (L.map DCut.cells)] rfl _ _ h y1 y2
theorem order_law2 (m : Model) (l : List DCut) (turn : Int) (hm : zModel m) (hl : zCuts l) (ht : I64 turn) : Pf Try.prog hallmarklaw11_DomOrder.id [.agg m.cells, vCuts l, V.i turn] (.bool true) := order_law m l turn hm hl.1
end Go.Abs.G
