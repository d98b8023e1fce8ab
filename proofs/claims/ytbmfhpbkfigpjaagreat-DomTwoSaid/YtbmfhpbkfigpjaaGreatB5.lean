import Derived.Test.YtbmfhpbkfigpjaaGreatB4
set_option linter.all false
namespace Go.Abs.G
open Go.Proofs
set_option linter.unusedVariables false
set_option linter.unusedSimpArgs false

theorem cR_kids (b : Nat) (ms : List (List Dom)) : cR b ms ms.length = ((ms.zipIdx.map fun p => (⟨b + 3 * p.2, 4, [], p.1.map domCe⟩ : Kid)).map fun c => [V.own c.id c.es 0 c.L.length c.L.length]) := by
  simp [cR, Function.comp_def]

theorem zipIdx_ids (b : Nat) : ∀ (ms : List (List Dom)) (k : Nat), ((ms.zipIdx k).map fun p => b + 3 * p.2).Nodup
  | [], k => by simp
  | L :: ms, k => by
    rw [List.zipIdx_cons, List.map_cons, List.nodup_cons]
    refine ⟨fun h => ?_, zipIdx_ids b ms (k + 1)⟩
    obtain ⟨p, hp, he⟩ := List.mem_map.1 h
    have := List.le_snd_of_mem_zipIdx hp
    simp only at he
    omega

theorem kids_mapL (es : Nat) : ∀ (l : List (List (List Ce))) (n : Nat), (kids es n l).map Kid.L = l
  | [], n => rfl
  | L :: l, n => by simp [kids, kids_mapL es l (n + 1)]
theorem kidsOf_L (ms : List (List Dom)) : (kidsOf ms).map Kid.L = ms.map fun L => L.map domCe := kids_mapL 4 _ 3
theorem zipIdx_fst {α β : Type} (f : α → β) : ∀ (l : List α) (k : Nat), (l.zipIdx k).map (fun p => f p.1) = l.map f
  | [], k => rfl
  | a :: l, k => by simp [List.zipIdx_cons, zipIdx_fst f l (k + 1)]

theorem copy_packed {s : List Dom} {ms : List (List Dom)} (hs : s.length ≤ 64) (hm : ms.length ≤ 1000000) (hL : ∀ L ∈ ms, L.length ≤ 64) :
    DC Tryz.prog dom_Store_Copy.id [.ptr 0 1 0 0] [St1 s (mT ms)] (fun r H => r = .ptr 1 1 0 0 ∧ H = [St1 s (mT ms), St1 s (mT ms)]) := by
  have hcl : ∀ f, O.ren f (St1 s (mT ms)) = St1 s (mT ms) := fun f => by
    simp [St1, O.ren, Ce.renR, Ce.renL, Ce.ren, domCe_ren, mT_ren]
  refine DC.picks (Q := fun r H => r = .ptr (3 + ms.length) 1 0 0 ∧ H[0]? = some (St1 s (mT ms)) ∧ H[3 + ms.length]? = some (St1 s (mT ms))) ?_ ?_
  rotate_left
  · rintro r H ⟨rfl, h0, h1⟩
    refine ⟨[0, 3 + ms.length], ⟨by simp; omega, fun i hi => ?_, fun i hi => ?_, fun i hi k hk => ?_⟩, by simp, by simp, ?_, ?_⟩
    · simp only [List.mem_cons, List.not_mem_nil, or_false] at hi
      rcases hi with rfl | rfl
      · exact lt_of_get h0
      · exact lt_of_get h1
    · simp only [List.mem_cons, List.not_mem_nil, or_false] at hi
      rcases hi with rfl | rfl
      · rw [getD_some h0]; simp [St1]
      · rw [getD_some h1]; simp [St1]
    · simp only [List.mem_cons, List.not_mem_nil, or_false] at hi
      rcases hi with rfl | rfl
      · rw [getD_some h0] at hk; simp [St1, O.refs] at hk
      · rw [getD_some h1] at hk; simp [St1, O.refs] at hk
    · simp only [V.ren, idx, List.idxOf_cons]
      have : (0 == 3 + ms.length) = false := by simp; omega
      simp [this]
    · simp only [sub, List.map_cons, List.map_nil, getD_some h0, getD_some h1, hcl]
  refine DC.pre ((open_store (mT_ids ms)).trans step_open) (DC.post' (copy_open hs hm hL) ?_)
  rintro x H1 ⟨rfl, E, hE, rfl⟩ w β F vs hk hr
  have hol : (objsOf ms).length = ms.length := by simp [objsOf]
  obtain ⟨n, hn⟩ : ∃ n, n = 3 + (objsOf ms).length := ⟨_, rfl⟩
  have hn' : 3 + ms.length = n := by omega
  rw [hn'] at hE hr ⊢
  have z1 := fun L c => Zn (s := s) (rf := List.range' 3 ms.length) (R := rowsOf' ms) hn L c
  have z0 := fun L => Zn0 (s := s) (rf := List.range' 3 ms.length) (R := rowsOf' ms) hn L
  generalize hH : Z s (List.range' 3 ms.length) (rowsOf' ms) ++ (objsOf ms ++ E) = H at hk hr ⊢
  have g0 : H[0]? = some (.mem false [1, 2] [[.own 1 4 0 s.length s.length, .own 2 1 0 ms.length ms.length]]) := by rw [← hH, Z_0, rowsOf_len]
  have g1 : H[1]? = some (.mem false [] (s.map Dom.row)) := by rw [← hH, Z_1]
  have g2 : H[2]? = some (.mem false (List.range' 3 ms.length) (rowsOf' ms)) := by rw [← hH, Z_2]
  have gk : ∀ i L, ms[i]? = some L → H[3 + i]? = some (.tree [] (L.map domCe)) := fun i L h => by
    have hi := lt_of_get h
    rw [← hH, List.getElem?_append_right (by simp), List.getElem?_append_left (by simp; omega)]
    have : 3 + i - (Z s (List.range' 3 ms.length) (rowsOf' ms)).length = i := by simp
    rw [this]; exact objsOf_get h
  have ge : ∀ c, H[n + c]? = E[c]? := fun c => by rw [← hH]; exact z1 E c
  -- the original, when the copy is told
  have orig : ∀ {β : Nat → Hd} {H2 : Heap}, HOK w.heap H2 β F → RVs (cx w.heap H2 β F) vs [.ptr n 1 0 0, .ptr 0 1 0 0] → (∀ j, j < n → H2[j]? = H[j]?) →
      ∃ β' H3, Adv F w H2 β w H3 β' ∧ H3[0]? = some (St1 s (mT ms)) ∧ ∀ j, n ≤ j → H3[j]? = H2[j]? := fun {β H2} hk hr hj => by
    have hids : (kidsOf ms).map Kid.id = List.range' 3 ms.length := by unfold kidsOf; rw [kids_ids, List.length_map]
    obtain ⟨β', H3, a, b1, b2, b3⟩ := close_gen (q := 1) (p := 0) (a := 1) (b := 2) (s := s) (ms := ms) (K := kidsOf ms) hk hr rfl ((hj 0 (by omega)).trans g0) ((hj 1 (by omega)).trans g1) ((hj 2 (by omega)).trans g2)
      (kidsOf_L ms) (fun c hc => (kids_mem 4 3 _ c hc).choose_spec.2.2.2) (fun c hc => by
        obtain ⟨i, h1, h2, h3, h4⟩ := kids_mem 4 3 _ c hc
        rw [List.getElem?_map, Option.map_eq_some_iff] at h1
        obtain ⟨L, h1, h5⟩ := h1
        have := lt_of_get h1
        rw [h2, h3, ← h5, hj _ (by omega)]
        exact gk i L h1) (by rw [hids]; exact List.nodup_range') (by rw [hids, List.mem_range'_1]; omega) (by rw [hids, List.mem_range'_1]; omega) (by rw [hids, List.mem_range'_1]; omega) (by simp) (by simp) (by simp)
    exact ⟨β', H3, a, b1, fun j h => b3 j (by omega) (by omega) (by omega) (by rw [hids, List.mem_range'_1]; omega)⟩
  have hx : (Z s (List.range' 3 ms.length) (rowsOf' ms)).length = 3 := rfl
  -- the copy
  have copy : ∃ β' H2, Adv F w H β w H2 β' ∧ H2[n]? = some (St1 s (mT ms)) ∧ ∀ j, j < n → H2[j]? = H[j]? := by
    cases hE with
    | zero hi =>
      obtain rfl : ms = [] := List.length_eq_zero_iff.1 hi
      have e0 : H[n]? = some (.mem false [n + 1] [[.own (n + 1) 4 0 s.length s.length, nilS]]) := ge 0
      have e1 : H[n + 1]? = some (.mem false [] (s.map Dom.row)) := ge 1
      have lp := lo_arg (i := 0) hr rfl (by unfold hdOf; rw [e0]; rfl)
      obtain ⟨β1, a1⟩ := adv_toTree hk e0 lp
      have f0 : (H.set n (.tree [n + 1] (flatC [[.own (n + 1) 4 0 s.length s.length, nilS]])))[n]? = some (.tree [n + 1] [[.v (.own (n + 1) 4 0 s.length s.length), .v nilS]]) := by rw [get_set e0]; rfl
      have f1 : (H.set n (.tree [n + 1] (flatC [[.own (n + 1) 4 0 s.length s.length, nilS]])))[n + 1]? = some (.mem false [] (s.map Dom.row)) := by rw [getElem?_set_ne' (by omega)]; exact e1
      have fo : ∀ j, j < n → (H.set n (.tree [n + 1] (flatC [[.own (n + 1) 4 0 s.length s.length, nilS]])))[j]? = H[j]? := fun j h => getElem?_set_ne' (by omega)
      generalize H.set n (.tree [n + 1] (flatC [[.own (n + 1) 4 0 s.length s.length, nilS]])) = H1 at a1 f0 f1 fo
      have la : (β1 (n + 1)).lo = 0 := lo_of_tree (i := 0) (j := 0) a1.hok f0 rfl rfl (by unfold hdOf; rw [f1]; simp)
      obtain ⟨β2, a2⟩ := adv_toTree a1.hok f1 la
      rw [← domCe_flat] at a2
      have g0 : (H1.set (n + 1) (.tree [] (s.map domCe)))[n]? = some (.tree [n + 1] [[.v (.own (n + 1) 4 0 s.length s.length), .v nilS]]) := by rw [getElem?_set_ne' (by omega)]; exact f0
      have g1 : (H1.set (n + 1) (.tree [] (s.map domCe)))[n + 1]? = some (.tree [] (s.map domCe)) := get_set f1
      have go : ∀ j, j < n → (H1.set (n + 1) (.tree [] (s.map domCe)))[j]? = H[j]? := fun j h => (getElem?_set_ne' (by omega)).trans (fo j h)
      generalize H1.set (n + 1) (.tree [] (s.map domCe)) = H2 at a2 g0 g1 go
      obtain ⟨β3, a3⟩ := adv_pack (i := 0) (j := 0) a2.hok g0 g1 (by omega) rfl rfl (by simp)
      generalize hP : O.tree ([n + 1] ++ []) _ = P at a3
      have k0 : ((H2.set (n + 1) .dead).set n P)[n]? = some (.tree [n + 1] [[.n 4 (s.map domCe), .v nilS]]) := by rw [get_set (x := _) (by rw [getElem?_set_ne' (by omega)]; exact g0), ← hP]; rfl
      have ko : ∀ j, j < n → ((H2.set (n + 1) .dead).set n P)[j]? = H[j]? := fun j h => (getElem?_set_ne' (by omega)).trans ((getElem?_set_ne' (by omega)).trans (go j h))
      generalize (H2.set (n + 1) .dead).set n P = H3 at a3 k0 ko
      obtain ⟨β4, a4⟩ := adv_nilcell (i := 0) (j := 1) (es := 1) a3.hok k0 rfl rfl
      have l0 := get_set (y := O.tree [n + 1] ([[.n 4 (s.map domCe), .v nilS]].set 0 ([.n 4 (s.map domCe), .v nilS].set 1 (.n 1 [])))) k0
      obtain ⟨β5, a5⟩ := adv_refsT (refs' := []) a4.hok l0 (by simp [Ce.idsR, Ce.idsL, Ce.ids, domCe_ids])
      refine ⟨β5, _, a1.trans (a2.trans (a3.trans (a4.trans a5))), get_set l0, fun j h => ?_⟩
      rw [getElem?_set_ne' (by omega), getElem?_set_ne' (by omega)]
      exact ko j h
    | some hi hl hkk hr1 hr2 =>
      rename_i rf1 rf2 G T
      have e0 : H[n]? = some (.mem false rf1 [[.own (n + 1) 4 0 s.length s.length, .own (n + 3) 1 0 ms.length ms.length]]) := ge 0
      have e1 : H[n + 1]? = some (.mem false [] (s.map Dom.row)) := ge 1
      have e3 : H[n + 3]? = some (.mem false rf2 (cR (n + 4) ms ms.length)) := ge 3
      have e4 : ∀ j L, ms[j]? = some L → H[n + 4 + 3 * j]? = some (.mem false [] (L.map Dom.row)) := fun j L h => by
        have h1 : n + 4 + 3 * j = n + (3 * j + 4) := by omega
        rw [h1, ge]
        exact hkk j L (lt_of_get h) h
      have lp := lo_arg (i := 0) hr rfl (by unfold hdOf; rw [e0]; rfl)
      have lb : (β (n + 3)).lo = 0 := lo_of_cell (p := n) (c := n + 3) (i := 0) (j := 1) hk e0 lp rfl rfl (by unfold hdOf; rw [e3]; simp [cR_len])
      obtain ⟨K, hK⟩ : ∃ K : List Kid, K = ms.zipIdx.map fun p => (⟨n + 4 + 3 * p.2, 4, [], p.1.map domCe⟩ : Kid) := ⟨_, rfl⟩
      have hcK := cR_kids (n + 4) ms
      rw [← hK] at hcK
      obtain ⟨β1, H1, a1, k1, k2, k3⟩ := adv_treeAll (ms.zipIdx.map fun p => (n + 4 + 3 * p.2, p.1.map Dom.row)) H β hk (fun c hc => by
        obtain ⟨p, hp, rfl⟩ := List.mem_map.1 hc
        have hp' := List.mem_zipIdx_iff_getElem?.1 hp
        refine ⟨e4 _ _ hp', ?_⟩
        refine lo_of_cell (p := n + 3) (i := p.2) (j := 0) (k := p.1.length) (es := 4) (row := [.own (n + 4 + 3 * p.2) 4 0 p.1.length p.1.length]) hk e3 lb ?_ rfl (by unfold hdOf; rw [e4 _ _ hp']; simp)
        simp [cR, hp']) (by
          rw [List.map_map]; exact zipIdx_ids (n + 4) ms 0)
      have hid2 : (ms.zipIdx.map fun p => (n + 4 + 3 * p.2, p.1.map Dom.row)).map (·.1) = K.map Kid.id := by rw [hK]; simp [Function.comp_def]
      rw [hid2] at k3
      have kin : ∀ j, j < n + 4 → j ∉ K.map Kid.id := fun j hj h => by
        rw [hK, List.map_map] at h
        obtain ⟨p, hp, rfl⟩ := List.mem_map.1 h
        simp at hj
        omega
      obtain ⟨β2, H2, a2, c1, c2, c3⟩ := close_gen (q := 0) (p := n) (a := n + 1) (b := n + 3) (s := s) (ms := ms) (K := K) a1.hok (hr.mono a1.le) rfl ((k3 _ (kin _ (by omega))).trans e0) ((k3 _ (kin _ (by omega))).trans e1) ((k3 _ (kin _ (by omega))).trans (hcK ▸ e3))
        (by rw [hK, List.map_map]; exact zipIdx_fst (fun L => L.map domCe) ms 0) (fun c hc => by rw [hK] at hc; obtain ⟨p, _, rfl⟩ := List.mem_map.1 hc; rfl) (fun c hc => by
          rw [hK] at hc
          obtain ⟨p, hp, rfl⟩ := List.mem_map.1 hc
          have := k1 (n + 4 + 3 * p.2, p.1.map Dom.row) (List.mem_map_of_mem (f := fun p => (n + 4 + 3 * p.2, p.1.map Dom.row)) hp)
          rw [← domCe_flat] at this
          exact this) (by rw [← hid2, List.map_map]; exact zipIdx_ids (n + 4) ms 0) (kin _ (by omega)) (kin _ (by omega)) (kin _ (by omega)) (by omega) (by omega) (by omega)
      exact ⟨β2, H2, a1.trans a2, c1, fun j hj => (c3 j (by omega) (by omega) (by omega) (kin _ (by omega))).trans (k3 j (kin _ (by omega)))⟩
  obtain ⟨β1, H1, a1, b1, b2⟩ := copy
  obtain ⟨β2, H2, a2, d1, d2⟩ := orig a1.hok (hr.mono a1.le) b2
  exact ⟨β2, H2, a1.trans a2, rfl, d1, by rw [d2 n (Nat.le_refl _)]; exact b1⟩
end Go.Abs.G

namespace Go.Abs.G
open Go.Proofs
set_option linter.unusedVariables false
set_option linter.unusedSimpArgs false

/-- A store that lies open somewhere. -/
structure Uat (H : Heap) (s : List Dom) (T : List (List Ce)) (p a b : Nat) : Prop where
  h0 : H[p]? = some (.mem false [a, b] [[.own a 4 0 s.length s.length, .own b 1 0 T.length T.length]])
  h1 : H[a]? = some (.mem false [] (s.map Dom.row))
  h2 : H[b]? = some (.tree [] T)
  na : p ≠ a
  nb : p ≠ b
  nab : a ≠ b

section
variable {H : Heap} {s : List Dom} {T : List (List Ce)} {p a b : Nat}
theorem Uat.sub (h : Uat H s T p a b) (hT : ∀ f, Ce.renR f T = T) : Abs.sub H [p, a, b] = U s T := by
  have i1 : idx [p, a, b] a = 1 := by simp [idx, List.idxOf_cons, beq_false_of_ne h.na]
  have i2 : idx [p, a, b] b = 2 := by simp [idx, List.idxOf_cons, beq_false_of_ne h.nb, beq_false_of_ne h.nab]
  simp [-idx, Abs.sub, getD_some h.h0, getD_some h.h1, getD_some h.h2, h.h0, h.h1, h.h2, O.ren, V.renL, V.ren, i1, i2, hT, U, Function.comp_def]
theorem Uat.ok (h : Uat H s T p a b) : OkSel H [p, a, b] := by
  refine ⟨by simp [h.na, h.nb, h.nab], fun i hi => ?_, fun i hi => ?_, fun i hi k hk => ?_⟩ <;> (simp only [List.mem_cons, List.not_mem_nil, or_false] at hi)
  · rcases hi with rfl | rfl | rfl
    · exact lt_of_get h.h0
    · exact lt_of_get h.h1
    · exact lt_of_get h.h2
  · rcases hi with rfl | rfl | rfl
    · rw [getD_some h.h0]; simp
    · rw [getD_some h.h1]; simp
    · rw [getD_some h.h2]; simp
  · rcases hi with rfl | rfl | rfl
    · rw [getD_some h.h0] at hk; simp [O.refs] at hk ⊢; exact .inr hk
    · rw [getD_some h.h1] at hk; simp [O.refs] at hk
    · rw [getD_some h.h2] at hk; simp [O.refs] at hk
theorem Uat.clos (h : Uat H s T p a b) : clos H 8 [p] = [p, a, b] := by
  have h3 : ∀ n, Abs.clos H n [p, a, b] = [p, a, b] := fun n => clos_stop H n _ h.ok.cl
  have cs : ∀ n l, Abs.clos H (n + 1) l = Abs.clos H n (addAll l (l.flatMap fun i => (H.getD i .dead).refs)) := fun _ _ => rfl
  rw [cs 7]
  simp only [List.flatMap_cons, List.flatMap_nil, getD_some h.h0, O.refs, List.append_nil]
  have : addAll [p] [a, b] = [p, a, b] := by simp [addAll, Ne.symm h.na, Ne.symm h.nb, Ne.symm h.nab]
  rw [this]; exact h3 7
theorem Uat.merge (h : Uat H s T p a b) (hT : ∀ f, Ce.renR f T = T) : merge H [p, a, b] (U s T) = H := by
  have i1 : back [p, a, b] H.length 1 = a := rfl
  have i2 : back [p, a, b] H.length 2 = b := rfl
  have e0 : O.ren (back [p, a, b] H.length) (.mem false [1, 2] [[.own 1 4 0 s.length s.length, .own 2 1 0 T.length T.length]]) = .mem false [a, b] [[.own a 4 0 s.length s.length, .own b 1 0 T.length T.length]] := by simp [O.ren, V.renL, V.ren, i1, i2]
  have e1 : O.ren (back [p, a, b] H.length) (.mem false [] (s.map Dom.row)) = .mem false [] (s.map Dom.row) := by simp [O.ren, Function.comp_def]
  have e2 : O.ren (back [p, a, b] H.length) (.tree [] T) = .tree [] T := by simp [O.ren, hT]
  simp only [Abs.merge, U, List.length_cons, List.length_nil, Nat.zero_add, Nat.reduceAdd, List.take_succ_cons, List.take_zero, List.map_cons, List.map_nil, List.drop_succ_cons, List.drop_zero, List.append_nil, e0, e1, e2, place]
  rw [set_same h.h0, set_same h.h1, set_same h.h2]
end

/-- A look at a store among others. -/
theorem callm_U {P : Program} {k : St → Prop} {st : St} {d : Option Nat} {f : FuncId} {xs : List Operand} {zs : List V} {r0 : V} {s : List Dom} {T : List (List Ce)} {p a b : Nat} (hc : DC P f zs (U s T) fun r H => r = r0 ∧ H = U s T) (h : Uat st.hp s T p a b) (hT : ∀ f, Ce.renR f T = T)
    (hi : addAll [] (V.idsL (xs.map st.ev)) = [p]) (ha : V.renL (idx [p, a, b]) (xs.map st.ev) = zs) (hf : okFunc P f = true) (hk : k (st.put d (r0.ren (back [p, a, b] st.hp.length)))) : I.vc P (.callm d (.func f) xs) k st :=
  callm_go hc [p, a, b] (by rw [hi, h.clos]) h.ok ha (h.sub hT) hf (by rw [h.merge hT]; exact hk)

def sameB (s t : List Dom) : Bool := decide (s.length = t.length) && (List.range s.length).all fun x => decide (valsB s (x : Nat) = valsB t (x : Nat))

theorem same_body {s t : List Dom} {T T' : List (List Ce)} (hs : StOk s T) (ht : StOk t T') {H : Heap} {p a b p' a' b' : Nat} (h : Uat H s T p a b) (h' : Uat H t T' p' a' b') (hH : H.map (limO H.length) = H) :
    DC Tryz.prog dom_Same.id [.ptr p 1 0 0, .ptr p' 1 0 0] H (fun r H' => r = .bool (sameB s t) ∧ H'.take H.length = H) := by
  refine DC.of dom_Same.ok (by simp) ?_
  unfold dom_Same.ir
  refine vc_cut (At [(0, .ptr p 1 0 0), (1, .ptr p' 1 0 0)] H) (by simp [At]) ?_
  rintro ⟨sl, hp, bs⟩ ⟨rfl, g⟩
  simp only [sls_cons, sls_one] at g
  simp only at h h' hH
  have hn := hs.n
  have hn' := ht.n
  refine vc_cut (fun st => s.length = t.length ∧ At [(0, .ptr p 1 0 0), (1, .ptr p' 1 0 0)] hp st) ?_ ?_
  · by_cases hl : s.length = t.length
    · simp [g, h.h0, h'.h0, h.h1, h'.h1, hl, At]
    · have hl' : ¬ (s.length : Int) = t.length := by omega
      simp [g, h.h0, h'.h0, h.h1, h'.h1, hl, hl', dom_Same.rs, sameB]
  clear g
  rintro ⟨sl, hp, bs⟩ ⟨hl, rfl, g⟩
  simp only [sls_cons, sls_one] at g
  simp only at h h' hH
  obtain ⟨n, hN⟩ : ∃ n, n = s.length := ⟨_, rfl⟩
  have key : sameB s t = (List.range n).all fun x => decide (valsB s (x : Nat) = valsB t (x : Nat)) := by simp [sameB, hl, hN]
  refine vc_cut (fun st => sameB s t = true ∧ st.hp.take hp.length = hp) ?_ ?_
  · refine vc_cut (At [(0, .ptr p 1 0 0), (1, .ptr p' 1 0 0), (21, V.i n), (22, V.i 0)] hp) (by simp [g, h.h0, h.h1, At, hN]) ?_
    clear g
    rintro ⟨sl, hp, bs⟩ ⟨rfl, g⟩
    simp only [sls_cons, sls_one] at g
    simp only at h h' hH
    refine vc_block_of (vc_upto hp.length (Nat.le_refl _) n (fun i st => (∀ x, x < i → valsB s (x : Nat) = valsB t (x : Nat)) ∧ At [(0, .ptr p 1 0 0), (1, .ptr p' 1 0 0), (21, V.i n), (22, V.i i)] hp st) ⟨by simp, rfl, by simpa using g⟩ ?_)
    clear g
    rintro i ⟨sl, hp, bs⟩ hi ⟨hx, rfl, g⟩
    simp only [sls_cons, sls_one] at g
    simp only at h h' hH
    unfold dom_Same.b0
    by_cases hil : i < n
    · have hw : IntKind.i64.wrap ((i : Int) + 1) = ((i + 1 : Nat) : Int) := by rw [wrap64] <;> omega
      refine vc_cut (At [(0, .ptr p 1 0 0), (1, .ptr p' 1 0 0), (21, V.i n), (22, V.i i), (23, .bool true)] hp) (by simp [g, At, hil]) ?_
      clear g
      rintro ⟨sl, hp, bs⟩ ⟨rfl, g⟩
      simp only [sls_cons, sls_one] at g
      simp only at h h' hH
      refine vc_cut (At [(0, .ptr p 1 0 0), (1, .ptr p' 1 0 0), (21, V.i n), (22, V.i i)] hp) (by simp [g, At]) ?_
      clear g
      rintro ⟨sl, hp, bs⟩ ⟨rfl, g⟩
      simp only [sls_cons, sls_one] at g
      simp only at h h' hH
      refine vc_cut (fun st => valsB s (i : Nat) = valsB t (i : Nat) ∧ At [(0, .ptr p 1 0 0), (1, .ptr p' 1 0 0), (21, V.i n), (22, V.i i)] hp st) (vc_block_of ?_) ?_
      · have hv := valsB_len hs (i : Nat)
        have hv' := valsB_len ht (i : Nat)
        simp [g]
        refine callm_U (values_spec hs (i : Nat)) h hs.t ?_ ?_ (by simp) ?_
        · simp [g, addAll]
        · simp [g, -idx, idx, List.idxOf_cons]
        simp [g]
        refine callm_U (values_spec ht (i : Nat)) h' ht.t ?_ ?_ (by simp) ?_
        · simp [g, addAll]
        · simp [g, -idx, idx, List.idxOf_cons]
        simp [g]
        refine call_go (equal_spec (valsB s (i : Nat)) (valsB t (i : Nat)) (by have : (64 : Nat) ≤ maxLen := by decide
                                                                               omega)) ?_ ?_ ?_
        · simp [g, vInts]
        · simp [vInts]
        by_cases he : valsB s (i : Nat) = valsB t (i : Nat)
        · simp [g, he, At]
        · have : sameB s t = false := by
            rw [key, List.all_eq_false]
            exact ⟨i, by simpa using hil, by simpa using he⟩
          simp [g, he, this, dom_Same.rs]
      · clear g
        rintro ⟨sl, hp, bs⟩ ⟨he, rfl, g⟩
        simp only [sls_cons, sls_one] at g
        have l1 := lt_of_get h.h0
        have l2 := lt_of_get h'.h0
        simp only at hH l1 l2
        simp [g, hw, hil, l1, l2, At, hH]
        intro x hx'
        by_cases hxi : x = i
        · rw [hxi]; exact he
        · exact hx x (by omega)
    · have hik : i = n := by omega
      subst hik
      refine vc_cut (At [(0, .ptr p 1 0 0), (23, .bool false)] hp) (by simp [g, At]) ?_
      clear g
      rintro ⟨sl, hp, bs⟩ ⟨rfl, g⟩
      simp only [sls_cons, sls_one] at g
      simp [g, key]
      exact hx
  · rintro ⟨sl, hp, bs⟩ ⟨h1, h2⟩
    simp [dom_Same.rs, h1]
    exact h2
end Go.Abs.G

namespace Go.Abs.G
open Go.Proofs
set_option linter.unusedVariables false
set_option linter.unusedSimpArgs false

theorem open_at {w : World} {β : Nat → Hd} {F : Nat → Prop} {H : Heap} {s : List Dom} {T : List (List Ce)} {p : Nat} (hk : HOK w.heap H β F) (hp : H[p]? = some (St1 s T)) (hT : Ce.idsR T = []) :
    ∃ β' H2, Adv F w H β w H2 β' ∧ Uat H2 s T p H.length (H.length + 1) ∧ H2.length = H.length + 2 ∧ ∀ j, j < H.length → j ≠ p → H2[j]? = H[j]? := by
  have hlt := lt_of_get hp
  obtain ⟨L, hL⟩ : ∃ L, L = H.length := ⟨_, rfl⟩
  obtain ⟨β1, a1⟩ := adv_unpack (id := p) (i := 0) (j := 0) hk hp rfl rfl
  rw [List.length_map, ← hL] at a1
  have p1 : (H.set p (.tree (L :: []) (([[Ce.n 4 (s.map domCe), Ce.n 1 T]]).set 0 ([Ce.n 4 (s.map domCe), Ce.n 1 T].set 0 (.v (.own L 4 0 s.length s.length))))) ++ [O.tree [] (s.map domCe)])[p]? = some (.tree [L] [[.v (.own L 4 0 s.length s.length), .n 1 T]]) := by
    rw [List.getElem?_append_left (by rw [List.length_set]; exact hlt)]; exact get_set hp
  have q1 : (H.set p (.tree (L :: []) (([[Ce.n 4 (s.map domCe), Ce.n 1 T]]).set 0 ([Ce.n 4 (s.map domCe), Ce.n 1 T].set 0 (.v (.own L 4 0 s.length s.length))))) ++ [O.tree [] (s.map domCe)])[L]? = some (.tree [] (s.map domCe)) := by
    rw [List.getElem?_append_right (by rw [List.length_set]; omega)]; simp [hL]
  have l1 : (H.set p (.tree (L :: []) (([[Ce.n 4 (s.map domCe), Ce.n 1 T]]).set 0 ([Ce.n 4 (s.map domCe), Ce.n 1 T].set 0 (.v (.own L 4 0 s.length s.length))))) ++ [O.tree [] (s.map domCe)]).length = L + 1 := by simp [hL]
  have o1 : ∀ j, j < L → j ≠ p → (H.set p (.tree (L :: []) (([[Ce.n 4 (s.map domCe), Ce.n 1 T]]).set 0 ([Ce.n 4 (s.map domCe), Ce.n 1 T].set 0 (.v (.own L 4 0 s.length s.length))))) ++ [O.tree [] (s.map domCe)])[j]? = H[j]? := fun j h1 h2 => by
    rw [List.getElem?_append_left (by rw [List.length_set]; omega), getElem?_set_ne' h2]
  generalize H.set p (.tree (L :: []) (([[Ce.n 4 (s.map domCe), Ce.n 1 T]]).set 0 ([Ce.n 4 (s.map domCe), Ce.n 1 T].set 0 (.v (.own L 4 0 s.length s.length))))) ++ [O.tree [] (s.map domCe)] = H1 at a1 p1 q1 l1 o1
  obtain ⟨β2, a2⟩ := adv_unpack (id := p) (i := 0) (j := 1) a1.hok p1 rfl rfl
  rw [l1] at a2
  have p2 : (H1.set p (.tree ((L + 1) :: [L]) (([[Ce.v (.own L 4 0 s.length s.length), Ce.n 1 T]]).set 0 ([Ce.v (.own L 4 0 s.length s.length), Ce.n 1 T].set 1 (.v (.own (L + 1) 1 0 T.length T.length))))) ++ [O.tree [L] T])[p]? = some (.tree [L + 1, L] [[.v (.own L 4 0 s.length s.length), .v (.own (L + 1) 1 0 T.length T.length)]]) := by
    rw [List.getElem?_append_left (by rw [List.length_set]; omega)]; exact get_set p1
  have q2 : (H1.set p (.tree ((L + 1) :: [L]) (([[Ce.v (.own L 4 0 s.length s.length), Ce.n 1 T]]).set 0 ([Ce.v (.own L 4 0 s.length s.length), Ce.n 1 T].set 1 (.v (.own (L + 1) 1 0 T.length T.length))))) ++ [O.tree [L] T])[L]? = some (.tree [] (s.map domCe)) := by
    rw [List.getElem?_append_left (by rw [List.length_set]; omega), getElem?_set_ne' (by omega)]; exact q1
  have r2 : (H1.set p (.tree ((L + 1) :: [L]) (([[Ce.v (.own L 4 0 s.length s.length), Ce.n 1 T]]).set 0 ([Ce.v (.own L 4 0 s.length s.length), Ce.n 1 T].set 1 (.v (.own (L + 1) 1 0 T.length T.length))))) ++ [O.tree [L] T])[L + 1]? = some (.tree [L] T) := by
    rw [List.getElem?_append_right (by rw [List.length_set]; omega)]; simp [l1]
  have l2 : (H1.set p (.tree ((L + 1) :: [L]) (([[Ce.v (.own L 4 0 s.length s.length), Ce.n 1 T]]).set 0 ([Ce.v (.own L 4 0 s.length s.length), Ce.n 1 T].set 1 (.v (.own (L + 1) 1 0 T.length T.length))))) ++ [O.tree [L] T]).length = L + 2 := by simp [l1]
  have o2 : ∀ j, j < L → j ≠ p → (H1.set p (.tree ((L + 1) :: [L]) (([[Ce.v (.own L 4 0 s.length s.length), Ce.n 1 T]]).set 0 ([Ce.v (.own L 4 0 s.length s.length), Ce.n 1 T].set 1 (.v (.own (L + 1) 1 0 T.length T.length))))) ++ [O.tree [L] T])[j]? = H[j]? := fun j h1 h2 => by
    rw [List.getElem?_append_left (by rw [List.length_set]; omega), getElem?_set_ne' h2]; exact o1 j h1 h2
  generalize H1.set p (.tree ((L + 1) :: [L]) (([[Ce.v (.own L 4 0 s.length s.length), Ce.n 1 T]]).set 0 ([Ce.v (.own L 4 0 s.length s.length), Ce.n 1 T].set 1 (.v (.own (L + 1) 1 0 T.length T.length))))) ++ [O.tree [L] T] = H2 at a2 p2 q2 r2 l2 o2
  obtain ⟨β3, a3⟩ := adv_refsT (id := L + 1) (refs' := []) a2.hok r2 (by rw [hT]; simp)
  have p3 : (H2.set (L + 1) (.tree [] T))[p]? = _ := (getElem?_set_ne' (by omega)).trans p2
  have q3 : (H2.set (L + 1) (.tree [] T))[L]? = _ := (getElem?_set_ne' (by omega)).trans q2
  have r3 : (H2.set (L + 1) (.tree [] T))[L + 1]? = _ := get_set r2
  have l3 : (H2.set (L + 1) (.tree [] T)).length = L + 2 := by rw [List.length_set]; exact l2
  have o3 : ∀ j, j < L → j ≠ p → (H2.set (L + 1) (.tree [] T))[j]? = H[j]? := fun j h1 h2 => (getElem?_set_ne' (by omega)).trans (o2 j h1 h2)
  generalize H2.set (L + 1) (.tree [] T) = H3 at a3 p3 q3 r3 l3 o3
  obtain ⟨β4, a4⟩ := adv_toMem (id := L) (refs := []) (rows := s.map Dom.row) a3.hok (by rw [← domCe_flat]; exact q3)
  have p4 : (H3.set L (.mem false [] (s.map Dom.row)))[p]? = _ := (getElem?_set_ne' (by omega)).trans p3
  have q4 : (H3.set L (.mem false [] (s.map Dom.row)))[L]? = _ := get_set q3
  have r4 : (H3.set L (.mem false [] (s.map Dom.row)))[L + 1]? = _ := (getElem?_set_ne' (by omega)).trans r3
  have l4 : (H3.set L (.mem false [] (s.map Dom.row))).length = L + 2 := by rw [List.length_set]; exact l3
  have o4 : ∀ j, j < L → j ≠ p → (H3.set L (.mem false [] (s.map Dom.row)))[j]? = H[j]? := fun j h1 h2 => (getElem?_set_ne' (by omega)).trans (o3 j h1 h2)
  generalize H3.set L (.mem false [] (s.map Dom.row)) = H4 at a4 p4 q4 r4 l4 o4
  obtain ⟨β5, a5⟩ := adv_refsT (id := p) (refs' := [L, L + 1]) a4.hok p4 (by simp [Ce.idsR, Ce.idsL, Ce.ids, V.ids])
  have p5 : (H4.set p (.tree [L, L + 1] [[.v (.own L 4 0 s.length s.length), .v (.own (L + 1) 1 0 T.length T.length)]]))[p]? = _ := get_set p4
  obtain ⟨β6, a6⟩ := adv_toMem (id := p) (refs := [L, L + 1]) (rows := [[.own L 4 0 s.length s.length, .own (L + 1) 1 0 T.length T.length]]) a5.hok p5
  rw [← hL]
  refine ⟨β6, _, a1.trans (a2.trans (a3.trans (a4.trans (a5.trans a6)))), ⟨get_set p5, ?_, ?_, by omega, by omega, by omega⟩, by rw [List.length_set, List.length_set]; exact l4, fun j h1 h2 => ?_⟩
  · rw [getElem?_set_ne' (by omega), getElem?_set_ne' (by omega)]; exact q4
  · rw [getElem?_set_ne' (by omega), getElem?_set_ne' (by omega)]; exact r4
  · rw [getElem?_set_ne' h2, getElem?_set_ne' h2]; exact o4 j h1 h2

theorem two_eq {H : Heap} (x y : O) (h0 : H[0]? = some x) (h1 : H[1]? = some y) : ∃ E, H = x :: y :: E := by
  match H, h0, h1 with
  | a :: b :: E, h0, h1 => simp at h0 h1; exact ⟨E, by rw [h0, h1]⟩

@[simp] theorem St1_lim (n : Nat) (s : List Dom) (T : List (List Ce)) : limO n (St1 s T) = St1 s T := by simp [St1, limO, O.refs]

theorem samePP {s t : List Dom} {ms ns : List (List Dom)} (hs : SOk s ms) (ht : SOk t ns) :
    DC Tryz.prog dom_Same.id [.ptr 0 1 0 0, .ptr 1 1 0 0] [St1 s (mT ms), St1 t (mT ns)] (fun r H => r = .bool (sameB s t) ∧ H = [St1 s (mT ms), St1 t (mT ns)]) := by
  refine DC.trim (Q := fun r H => r = .bool (sameB s t) ∧ H[0]? = some (St1 s (mT ms)) ∧ H[1]? = some (St1 t (mT ns))) ?_ ?_
  rotate_left
  · rintro r H ⟨rfl, h0, h1⟩
    obtain ⟨E, rfl⟩ := two_eq _ _ h0 h1
    exact ⟨2, by simp, by simp [V.ids], rfl, by simp [-limO]⟩
  intro w β F vs hk hr
  obtain ⟨β1, H1, a1, u1, l1, o1⟩ := open_at (s := s) (T := mT ms) (p := 0) hk rfl (mT_ids ms)
  have hp1 : H1[1]? = some (St1 t (mT ns)) := by rw [o1 1 (by simp) (by simp)]; rfl
  obtain ⟨β2, H2, a2, u2, l2, o2⟩ := open_at (p := 1) a1.hok hp1 (mT_ids ns)
  simp only [List.length_cons, List.length_nil] at l1 u1
  rw [l1] at u2 l2 o2
  have u1' : Uat H2 s (mT ms) 0 2 3 := ⟨(o2 0 (by omega) (by omega)).trans u1.h0, (o2 2 (by omega) (by omega)).trans u1.h1, (o2 3 (by omega) (by omega)).trans u1.h2, u1.na, u1.nb, u1.nab⟩
  have hH : H2 = [.mem false [2, 3] [[.own 2 4 0 s.length s.length, .own 3 1 0 (mT ms).length (mT ms).length]], .mem false [4, 5] [[.own 4 4 0 t.length t.length, .own 5 1 0 (mT ns).length (mT ns).length]], .mem false [] (s.map Dom.row), .tree [] (mT ms), .mem false [] (t.map Dom.row), .tree [] (mT ns)] := by
    match H2, l2, u1', u2 with
    | [a, b, c, d, e, f], l2, u1', u2 =>
      have := u1'.h0; have := u1'.h1; have := u1'.h2; have := u2.h0; have := u2.h1; have := u2.h2
      simp_all
  have body := same_body hs.st ht.st u1' u2 (by rw [hH]; simp [limO, O.refs])
  refine (body w β2 F vs a2.hok (hr.mono (a1.trans a2).le)).mono fun e w' ⟨r, x, H', β3, he, a3, hx, hq, hT⟩ => ?_
  subst hq
  have hl : H2.length = 6 := by rw [hH]; rfl
  rw [hl] at hT
  have hg : ∀ j, j < 6 → H'[j]? = H2[j]? := fun j hj => by rw [← hT, List.getElem?_take, if_pos hj]
  have hr3 := RVs.cons' hx ((hr.mono (a1.trans a2).le).mono a3.le)
  have v1 : Uat H' s (mT ms) 0 2 3 := ⟨(hg 0 (by omega)).trans u1'.h0, (hg 2 (by omega)).trans u1'.h1, (hg 3 (by omega)).trans u1'.h2, u1.na, u1.nb, u1.nab⟩
  have v2 : Uat H' t (mT ns) 1 4 5 := ⟨(hg 1 (by omega)).trans u2.h0, (hg 4 (by omega)).trans u2.h1, (hg 5 (by omega)).trans u2.h2, u2.na, u2.nb, u2.nab⟩
  obtain ⟨β4, H4, a4, c1, c2, c3⟩ := close_storeO (p := 0) (a := 2) (b := 3) a3.hok v1.h0 v1.h1 v1.h2 (mT_ids ms) (by omega) (by omega) (by omega) (lo_arg (i := 1) hr3 rfl (by unfold hdOf; rw [v1.h0]; rfl))
  obtain ⟨β5, H5, a5, d1, d2, d3⟩ := close_storeO (p := 1) (a := 4) (b := 5) a4.hok ((c3 1 (by omega) (by omega) (by omega)).trans v2.h0) ((c3 4 (by omega) (by omega) (by omega)).trans v2.h1) ((c3 5 (by omega) (by omega) (by omega)).trans v2.h2) (mT_ids ns) (by omega) (by omega) (by omega)
    (lo_arg (i := 2) (hr3.mono a4.le) rfl (by unfold hdOf; rw [c3 1 (by omega) (by omega) (by omega), v2.h0]; rfl))
  exact ⟨r, _, H5, β5, he, a1.trans (a2.trans (a3.trans (a4.trans a5))), hx.mono (a4.trans a5).le, rfl, (d3 0 (by omega) (by omega) (by omega)).trans c1, d1⟩

theorem sameB_self (s : List Dom) : sameB s s = true := by simp [sameB]

theorem sameP1 {s : List Dom} {ms : List (List Dom)} (hs : SOk s ms) :
    DC Tryz.prog dom_Same.id [.ptr 0 1 0 0, .ptr 0 1 0 0] [St1 s (mT ms)] (fun r H => r = .bool true ∧ H = [St1 s (mT ms)]) := by
  refine DC.packed (mT_ids ms) (mT_ids ms) (Q := fun r => r = .bool true) ?_ (by rintro r rfl; rfl)
  have u : Uat (U s (mT ms)) s (mT ms) 0 1 2 := ⟨rfl, rfl, rfl, by simp, by simp, by simp⟩
  refine DC.trim (same_body hs.st hs.st u u rfl) ?_
  rintro r H ⟨rfl, h⟩
  refine ⟨3, by simp, by simp [V.ids], by rw [sameB_self], ?_⟩
  rw [U_len] at h
  rw [h]; rfl

/-- New's store alone. -/
theorem newP1 (m : Model) (hm : okModel m) : DC Tryz.prog dom_New.id [.agg m.cells] [] (fun r H => r = .ptr 0 1 0 0 ∧ H = [St1 (domsOf m) (mT [])]) := by
  refine DC.picks (newP m hm) ?_
  rintro r H ⟨rfl, B, rfl⟩
  exact ⟨[1], by simp [St1, O.refs], by simp, by simp [V.ids], rfl, by simp [sub, St1, O.ren, Ce.renR, Ce.renL, Ce.ren, domCe_ren, mT_ren]⟩
end Go.Abs.G

/- The objects that a struct's cells may name, told closer. -/
namespace Go.Abs
set_option linter.unusedVariables false
theorem idsR_flatC : ∀ (rows : List (List V)), Ce.idsR (flatC rows) = (rows.map V.idsL).flatten
  | [] => rfl
  | r :: rows => by
    have h : ∀ r : List V, Ce.idsL (r.map Ce.v) = V.idsL r := fun r => by
      induction r with
      | nil => rfl
      | cons x r ih => simp only [List.map_cons, Ce.idsL, V.idsL, ih, Ce.ids]
    have ih := idsR_flatC rows
    unfold flatC at ih ⊢
    simp only [List.map_cons, Ce.idsR, List.flatten_cons, h, ih]
theorem adv_refsM {w : World} {β : Nat → Hd} {F : Nat → Prop} {H : Heap} {id : Nat} {refs refs' : List Nat} {rows : List (List V)} (hk : HOK w.heap H β F) (hid : H[id]? = some (.mem false refs rows)) (hlo : (β id).lo = 0) (hs : ∀ k ∈ (rows.map V.idsL).flatten, k ∈ refs') :
    ∃ β', Adv F w H β w (H.set id (.mem false refs' rows)) β' := by
  obtain ⟨β1, a1⟩ := adv_toTree hk hid hlo
  obtain ⟨β2, a2⟩ := adv_refsT (refs' := refs') a1.hok (get_set hid) (by rw [idsR_flatC]; exact hs)
  have g2 := get_set (y := O.tree refs' (flatC rows)) (get_set (y := O.tree refs (flatC rows)) hid)
  obtain ⟨β3, a3⟩ := adv_toMem a2.hok g2
  simp only [List.set_set] at a2 a3
  exact ⟨β3, a1.trans (a2.trans a3)⟩
end Go.Abs

/- Evaluation that leaves what comes behind alone. -/
namespace Go.Abs
set_option linter.unusedVariables false

def vcF (P : Program) (c : C) (Q : Ex → St → Prop) [Fix Q] (st : St) : Prop := vc P c Q st
def vcItsF (P : Program) (l : List It) (k : St → Prop) [Fix k] (st : St) : Prop := vcIts P l k st
def IvcF (P : Program) (i : I) (k : St → Prop) [Fix k] (st : St) : Prop := i.vc P k st

section
variable {P : Program} {Q : Ex → St → Prop} {st : St} {x : Operand} {a b c : C} {k : St → Prop} {l its : List It} {j t n id : Nat} {want : Bool} {d : Option Nat} {i : I}
@[simp ↓ high] theorem vcF_of : vc P c Q st = vcF P c Q st := propext Iff.rfl
@[simp ↓ high] theorem vcItsF_of : vcIts P l k st = vcItsF P l k st := propext Iff.rfl
@[simp ↓ high] theorem IvcF_of : I.vc P i k st = IvcF P i k st := propext Iff.rfl
@[simp] theorem vcF_skip : vcF P .skip Q st = Q .norm st := propext Iff.rfl
@[simp] theorem vcF_reg : vcF P (.reg n its) Q st = vcItsF P its (Q .norm) (st.res n) := propext Iff.rfl
@[simp] theorem vcF_seq : vcF P (.seq a b) Q st = vcF P a (fun e s => match e with | .norm => vcF P b Q s | .exit i => Q (.exit i) s | .ret => Q .ret s) st := propext Iff.rfl
@[simp] theorem vcF_block : vcF P (.block id c) Q st = vcF P c (fun e s => match e with | .norm => Q .norm s | .exit i => if i = id then Q .norm s else Q (.exit i) s | .ret => Q .ret s) st := propext Iff.rfl
@[simp] theorem vcF_exit : vcF P (.exit id) Q st = Q (.exit id) st := propext Iff.rfl
@[simp] theorem vcF_ret : vcF P .ret Q st = Q .ret st := propext Iff.rfl
@[simp] theorem vcF_cond_true (h : st.ev x = .a (.bool true)) : vcF P (.cond x a b) Q st = vcF P a Q st := by
  unfold vcF; simp only [vc, h]; exact propext ⟨fun q => q.1 trivial, fun q => ⟨fun _ => q, fun e => by cases e⟩⟩
@[simp] theorem vcF_cond_false (h : st.ev x = .a (.bool false)) : vcF P (.cond x a b) Q st = vcF P b Q st := by
  unfold vcF; simp only [vc, h]; exact propext ⟨fun q => q.2 trivial, fun q => ⟨(fun e => by cases e), fun _ => q⟩⟩
@[simp] theorem vcItsF_nil : vcItsF P [] k st = k st := propext Iff.rfl
@[simp] theorem vcItsF_g : vcItsF P (.g i :: l) k st = IvcF P i (vcItsF P l k) st := propext Iff.rfl
@[simp] theorem vcItsF_o : vcItsF P (.o j i :: l) k st = IvcF P i (vcItsF P l k) st := propext Iff.rfl
@[simp] theorem vcItsF_gd_pos (h : gt st.sl t = .a (.bool want)) : vcItsF P (.gd j t want d i :: l) k st = IvcF P i (vcItsF P l k) (st.put (some t) (.bool want)) := by
  unfold vcItsF IvcF; simp only [vcIts, h]; exact propext ⟨fun q => q.1 trivial, fun q => ⟨fun _ => q, fun e => by cases want <;> cases e⟩⟩
@[simp] theorem vcItsF_gd_neg (h : gt st.sl t = .a (.bool (!want))) : vcItsF P (.gd j t want d i :: l) k st = vcItsF P l k ((st.put (some t) (.bool !want)).put d (.a undef)) := by
  unfold vcItsF; simp only [vcIts, h]; exact propext ⟨fun q => q.2 trivial, fun q => ⟨(fun e => by cases want <;> cases e), fun _ => q⟩⟩
@[simp] theorem vcItsF_gd_un (h : gt st.sl t = .a (.tuple #[])) : vcItsF P (.gd j t want d i :: l) k st = vcItsF P l k (st.put d (.a undef)) := by unfold vcItsF; simp only [vcIts, h]
theorem vcF_upto (m : Nat) (hm : st.hp.length ≤ m) (n : Nat) (I : Nat → St → Prop) (h0 : I 0 st)
    (hr : ∀ i s, i ≤ n → I i s → vc P c (fun e s' => match e with | .norm => i < n ∧ I (i + 1) (s'.trim m) | .exit k => Q (.exit k) s' | .ret => Q .ret s') s) : vcF P (.loop c) Q st := WI.upto m hm n I h0 hr
end
/-! What each operation asks, but for calls. -/
section
variable {P : Program} {k : St → Prop} {st : St} {d : Option Nat} {x y v n m key : Operand} {l : L} {t es r len bytes : Nat} {ts ap : List Nat} {zero : List V} {parts : List (Nat × Operand)} {kd : IntKind}
@[simp] theorem F_lt : IvcF P (.lt d l) k st = (l.pre st ∧ k (st.put d (l.val st))) := propext Iff.rfl
@[simp] theorem F_frz : IvcF P (.frz t) k st = (if (gt st.sl t).ids = [] then k st else (gt st.sl t).fzP st.hp ∧ k { st with sl := up st.sl t ((gt st.sl t).fz st.hp), hp := st.hp.fz (gt st.sl t).ids }) := propext Iff.rfl
@[simp] theorem F_nilv : IvcF P (.nilv t es) k st = k { st with sl := up st.sl t (if (gt st.sl t).nilSl then .view es [] else gt st.sl t) } := propext Iff.rfl
@[simp] theorem F_keep : IvcF P (.keep ts) k st = k { st with sl := keepS st.sl ts } := propext Iff.rfl
@[simp] theorem F_wk : IvcF P .wk k st = (∃ st', Weak st st' ∧ k st') := propext Iff.rfl
@[simp] theorem F_alloc : IvcF P (.alloc d r len zero) k st = (st.hp[st.bs + r]? = some .res ∧ zero.length = len ∧ k ({ st with hp := st.hp.set (st.bs + r) (.mem false [] [zero]) }.put d (.ptr (st.bs + r) 1 0 0))) := propext Iff.rfl
@[simp] theorem F_box : IvcF P (.box d r len x) k st = (st.hp[st.bs + r]? = some .res ∧ (st.ev x).sized st.hp len ∧
      k ({ st with hp := st.hp.set (st.bs + r) (.mem false (V.idsL (st.ev x).cells) [(st.ev x).cells]) }.put d (.ptr (st.bs + r) 1 0 0))) := propext Iff.rfl
@[simp] theorem F_bsl : IvcF P (.bsl d r es len zero parts) k st = (st.hp[st.bs + r]? = some .res ∧ zero.length = es ∧ (∀ p ∈ parts, (st.ev p.2).sized st.hp es ∧ p.1 < len) ∧
      k ({ st with hp := st.hp.set (st.bs + r) (.mem false (V.idsL (fillV (List.flatten (List.replicate len zero)) (parts.map fun (p : Nat × Operand) => (p.1 * es, es, st.ev p.2)))) (chunk es len (fillV (List.flatten (List.replicate len zero)) (parts.map fun (p : Nat × Operand) => (p.1 * es, es, st.ev p.2))))) }.put d (.own (st.bs + r) es 0 len len))) := propext Iff.rfl
@[simp] theorem F_bsv : IvcF P (.bsv d es len zero parts) k st = (zero.length = es ∧ (∀ p ∈ parts, V.idsL (st.ev p.2).cells = [] ∧ (st.ev p.2).sized st.hp es ∧ p.1 < len) ∧
      k (st.put d (I.bsvV es len zero (parts.map fun (p : Nat × Operand) => (p.1 * es, es, st.ev p.2))))) := propext Iff.rfl
@[simp] theorem F_mkm : IvcF P (.mkm d r) k st = (st.hp[st.bs + r]? = some .res ∧ k ({ st with hp := st.hp.set (st.bs + r) (.map false [] []) }.put d (.mp (st.bs + r)))) := propext Iff.rfl
@[simp] theorem F_mks : IvcF P (.mks d r es bytes zero n) k st = (st.hp[st.bs + r]? = some .res ∧ zero.length = es ∧ (∃ m, st.ev n = .a (.int .i64 m)) ∧ 0 ≤ (st.ev n).num ∧ (st.ev n).num * bytes ≤ 140737488355328 ∧
      k ({ st with hp := st.hp.set (st.bs + r) (.mem false [] (List.replicate (st.ev n).num.toNat zero)) }.put d (.own (st.bs + r) es 0 (st.ev n).num.toNat (st.ev n).num.toNat))) := propext Iff.rfl
@[simp] theorem F_pan : IvcF P .pan k st = False := propext Iff.rfl
@[simp] theorem F_store : IvcF P (.store ap len x v) k st = (match st.ev x with
    | .ptr id tot i j => match st.hp.getD id .dead with
      | .mem false refs rows => (∀ t ∈ ap, (gt st.sl t).oid ≠ some id) ∧ rows.length = tot ∧ i < tot ∧ j + len ≤ (rows.getD i []).length ∧ (st.ev v).sized st.hp len ∧
          k { st with hp := st.hp.set id (.mem false (addRefs refs (V.idsL (st.ev v).cells)) (rows.set i (rowSet (rows.getD i []) j (st.ev v).cells))) }
      | _ => False
    | _ => False) := propext Iff.rfl
@[simp] theorem F_app : IvcF P (.app ap d r es bytes x y) k st = (match st.ev x with
    | .own id es' off len tot => match st.hp.getD id .dead with
      | .mem false refs rows => (∀ t ∈ ap, (gt st.sl t).oid ≠ some id) ∧ es' = es ∧ rows.length = tot ∧ off + len = tot ∧ okSl st.hp (st.ev y) ∧ (st.ev y).slEs es ∧ ((len : Int) + (st.ev y).slLen) * bytes ≤ 140737488355328 ∧
          k ({ st with hp := st.hp.set id (.mem false (addRefs refs ((st.ev y).rowIds st.hp)) (rows ++ (st.ev y).rowsOf st.hp)) }.put d (.own id es off (len + ((st.ev y).rowsOf st.hp).length) (tot + ((st.ev y).rowsOf st.hp).length)))
      | _ => False
    | .a (.slice none 0 0) => st.hp[st.bs + r]? = some .res ∧ okSl st.hp (st.ev y) ∧ (st.ev y).slEs es ∧ (st.ev y).slLen * bytes ≤ 140737488355328 ∧
          k ({ st with hp := st.hp.set (st.bs + r) (.mem false ((st.ev y).rowIds st.hp) ((st.ev y).rowsOf st.hp)) }.put d (.own (st.bs + r) es 0 ((st.ev y).rowsOf st.hp).length ((st.ev y).rowsOf st.hp).length))
    | .nul es' => es' = es ∧ st.hp[st.bs + r]? = some .res ∧ okSl st.hp (st.ev y) ∧ (st.ev y).slEs es ∧ (st.ev y).slLen * bytes ≤ 140737488355328 ∧
          (if ((st.ev y).rowsOf st.hp).isEmpty = true then k (st.put d (.nul es)) else
            k ({ st with hp := st.hp.set (st.bs + r) (.mem false ((st.ev y).rowIds st.hp) ((st.ev y).rowsOf st.hp)) }.put d (.own (st.bs + r) es 0 ((st.ev y).rowsOf st.hp).length ((st.ev y).rowsOf st.hp).length)))
    | _ => False) := propext Iff.rfl
@[simp] theorem F_cpy : IvcF P (.cpy d es x y) k st = (match st.ev x with
    | .own id es' off len tot => match st.hp.getD id .dead with
      | .mem false refs rows => es' = es ∧ rows.length = tot ∧ off + len ≤ tot ∧ okSl st.hp (st.ev y) ∧ (st.ev y).slEs es ∧ (st.ev y).slLen ≤ len ∧
          k ({ st with hp := st.hp.set id (.mem false (addRefs refs ((st.ev y).rowIds st.hp)) (rows.take off ++ (st.ev y).rowsOf st.hp ++ rows.drop (off + ((st.ev y).rowsOf st.hp).length))) }.put d (.a (.int .i64 (st.ev y).slLen)))
      | _ => False
    | _ => False) := propext Iff.rfl
@[simp] theorem F_mup : IvcF P (.mup ap kd m key v) k st = (match st.ev m with
    | .mp id => match st.hp.getD id .dead with
      | .map false refs es => (∀ t ∈ ap, (gt st.sl t).oid ≠ some id) ∧ (∀ e ∈ es, e.1.isKey kd = true) ∧ (st.ev key).isKey kd = true ∧
          k { st with hp := st.hp.set id (.map false (addRefs refs (V.idsL [st.ev v])) (putE es (st.ev key) (st.ev v))) }
      | _ => False
    | _ => False) := propext Iff.rfl

end

/-! Calls, as steps. -/
section
variable {P : Program} {k : St → Prop} {st : St} {d : Option Nat} {ap : List Nat} {f : FuncId} {xs : List Operand}
theorem gcall {r0 : V} {zs : List V} (hc : Pf P f zs r0) (ha : xs.map st.ev = zs) (hi : V.idsL zs = []) (hk : k (st.put d r0)) : IvcF P (.call d f xs) k st := call_go hc ha hi hk
theorem gcall_gen {zs : List V} {Q : V → Prop} (hc : DP P f zs Q) (ha : xs.map st.ev = zs) (hi : V.idsL zs = []) (hk : ∀ r, Q r → k (st.put d r)) : IvcF P (.call d f xs) k st := by
  subst ha; exact ⟨hi, hc.mono hk⟩
theorem gcallo {zs : List V} {r0 : V} {H0 : Heap} (hc : DC P f zs [] fun r H => r = r0 ∧ H = H0) (ha : xs.map st.ev = zs) (hi : V.idsL zs = []) (hf : okFunc P f = true)
    (hk : k ({ st with hp := st.hp ++ H0.map (O.ren (st.hp.length + ·)) }.put d (r0.ren (st.hp.length + ·)))) : IvcF P (.callo d (.func f) xs) k st := callo_go hc ha hi hf hk
theorem gcallm {zs : List V} {H0 : Heap} {r0 : V} {H1 : Heap} (hc : DC P f zs H0 fun r H => r = r0 ∧ H = H1) (sel : List Nat) (hs : clos st.hp 8 (addAll [] (V.idsL (xs.map st.ev))) = sel) (hok : OkSel st.hp sel) (ha : V.renL (idx sel) (xs.map st.ev) = zs) (hH : sub st.hp sel = H0)
    (hf : okFunc P f = true) (hk : k ({ st with hp := merge st.hp sel H1 }.put d (r0.ren (back sel st.hp.length)))) : IvcF P (.callm d (.func f) xs) k st := callm_go hc sel hs hok ha hH hf hk
theorem gcallm_gen {zs : List V} {H0 : Heap} {Q : V → Heap → Prop} (hc : DC P f zs H0 Q) (sel : List Nat) (hs : clos st.hp 8 (addAll [] (V.idsL (xs.map st.ev))) = sel) (hok : OkSel st.hp sel) (ha : V.renL (idx sel) (xs.map st.ev) = zs) (hH : sub st.hp sel = H0)
    (hf : okFunc P f = true) (hk : ∀ r H', Q r H' → k ({ st with hp := merge st.hp sel H' }.put d (r.ren (back sel st.hp.length)))) : IvcF P (.callm d (.func f) xs) k st := callm_gen hc sel hs hok ha hH hf hk
theorem gcallm1 {zs : List V} {r0 : V} {o o' : O} {H1 : Heap} (hc : DC P f zs [o] fun r H => r = r0 ∧ H = o' :: H1) (p : Nat) (hi : addAll [] (V.idsL (xs.map st.ev)) = [p]) (hp : st.hp[p]? = some o) (c : o.clo) (c' : o'.clo) (c1 : ∀ q ∈ H1, q.clo)
    (ha : V.renL (idx [p]) (xs.map st.ev) = zs) (hf : okFunc P f = true) (hk : k ({ st with hp := st.hp.set p o' ++ H1 }.put d (r0.ren (back [p] st.hp.length)))) : IvcF P (.callm d (.func f) xs) k st := callm_one hc p hi hp c c' c1 ha hf hk
theorem gcalla1 {zs : List V} {r0 : V} {o o' : O} {H1 : Heap} (hc : DC P f zs [o] fun r H => r = r0 ∧ H = o' :: H1) (p : Nat) (hi : addAll [] (V.idsL (xs.map st.ev)) = [p]) (hp : st.hp[p]? = some o) (c : o.clo) (c' : o'.clo) (c1 : ∀ q ∈ H1, q.clo)
    (hap : ∀ t ∈ ap, (gt st.sl t).oid ≠ some p) (ha : V.renL (idx [p]) (xs.map st.ev) = zs) (hf : okFunc P f = true) (hk : k ({ st with hp := st.hp.set p o' ++ H1 }.put d (r0.ren (back [p] st.hp.length)))) : IvcF P (.calla ap d (.func f) xs) k st := calla_one hc p hi hp c c' c1 hap ha hf hk
/-- Two objects by themselves, looked at. -/
theorem gcallm2 {zs : List V} {r0 : V} {o o2 : O} (hc : DC P f zs [o, o2] fun r H => r = r0 ∧ H = [o, o2]) (p q : Nat) (hne : p ≠ q) (hi : addAll [] (V.idsL (xs.map st.ev)) = [p, q]) (hp : st.hp[p]? = some o) (hq : st.hp[q]? = some o2) (c : o.clo) (c2 : o2.clo)
    (ha : V.renL (idx [p, q]) (xs.map st.ev) = zs) (hf : okFunc P f = true) (hk : k (st.put d (r0.ren (back [p, q] st.hp.length)))) : IvcF P (.callm d (.func f) xs) k st := by
  refine gcallm hc [p, q] ?_ ⟨by simp [hne], fun i hi => ?_, fun i hi => ?_, fun i hi j hj => ?_⟩ ha ?_ hf ?_
  · rw [hi]
    refine clos_stop _ _ _ fun i hi j hj => ?_
    simp only [List.mem_cons, List.not_mem_nil, or_false] at hi
    rcases hi with rfl | rfl
    · rw [getD_some hp, c.refs] at hj; cases hj
    · rw [getD_some hq, c2.refs] at hj; cases hj
  · simp only [List.mem_cons, List.not_mem_nil, or_false] at hi
    rcases hi with rfl | rfl
    · exact lt_of_get hp
    · exact lt_of_get hq
  · simp only [List.mem_cons, List.not_mem_nil, or_false] at hi
    rcases hi with rfl | rfl
    · rw [getD_some hp]; exact c.nres
    · rw [getD_some hq]; exact c2.nres
  · simp only [List.mem_cons, List.not_mem_nil, or_false] at hi
    rcases hi with rfl | rfl
    · rw [getD_some hp, c.refs] at hj; cases hj
    · rw [getD_some hq, c2.refs] at hj; cases hj
  · simp only [sub, List.map_cons, List.map_nil, getD_some hp, getD_some hq, c.ren, c2.ren]
  · have : merge st.hp [p, q] [o, o2] = st.hp := by
      simp only [merge, List.length_cons, List.length_nil, Nat.zero_add, Nat.reduceAdd, List.take_succ_cons, List.take_zero, List.map_cons, List.map_nil, List.drop_succ_cons, List.drop_zero, List.append_nil, place, c.ren, c2.ren, set_same hp, set_same hq]
    rw [this]; exact hk
end
end Go.Abs

namespace Go.Abs.G
open Go.Proofs
set_option linter.unusedVariables false
set_option linter.unusedSimpArgs false

def isR (d : List (List Int)) (x : Int) : Bool := decide (0 ≤ x) && decide (x < d.length)
def rowR (d : List (List Int)) (x : Int) : List Int := if isR d x then (d[x.toNat]?).getD [] else []
structure DOk (d : List (List Int)) : Prop where
  n : d.length ≤ 64
  l : ∀ l ∈ d, 1 ≤ l.length ∧ l.length ≤ 64
structure ROk (d : List (List Int)) (ms : List (List (List Int))) : Prop where
  d : DOk d
  k : ms.length ≤ 1000000
  m : ∀ e ∈ ms, DOk e

theorem isR_row {d : List (List Int)} {x : Int} (h : isR d x = true) : ∃ (i : Nat), x = i ∧ i < d.length ∧ ∃ hi : i < d.length, rowR d x = d[i] := by
  have h2 := h
  simp [isR] at h2
  refine ⟨x.toNat, by omega, by omega, by omega, ?_⟩
  unfold rowR
  rw [if_pos h, List.getElem?_eq_getElem (by omega)]
  rfl

section
variable {d : List (List Int)} {ms : List (List (List Int))} {M : List (List V)}

theorem isR_spec (x : Int) : DC Tryz.prog hallmarkref11_Store_is.id [.ptr 0 1 0 0, V.i x] (RS (dR d) M) (fun r H => r = .bool (isR d x) ∧ H = RS (dR d) M) := by
  refine DC.of hallmarkref11_Store_is.ok (by simp) ?_
  unfold hallmarkref11_Store_is.ir
  by_cases h : 0 ≤ x
  · simp -dsimp [hallmarkref11_Store_is.rs, isR, h]
  · simp -dsimp [hallmarkref11_Store_is.rs, isR, h]
theorem varsR11_spec : DC Tryz.prog hallmarkref11_Store_Vars.id [.ptr 0 1 0 0] (RS (dR d) M) (fun r H => r = V.i d.length ∧ H = RS (dR d) M) := by
  refine DC.of hallmarkref11_Store_Vars.ok (by simp) ?_
  unfold hallmarkref11_Store_Vars.ir
  simp -dsimp [hallmarkref11_Store_Vars.rs]

theorem loR_spec (hd : DOk d) (hM : flR M) (x : Int) : DC Tryz.prog hallmarkref11_Store_Lo.id [.ptr 0 1 0 0, V.i x] (RS (dR d) M) (fun r H => r = V.i ((rowR d x).headD 0) ∧ H = RS (dR d) M) := by
  refine DC.of hallmarkref11_Store_Lo.ok (by simp) ?_
  unfold hallmarkref11_Store_Lo.ir
  refine vc_cut (At [(0, .ptr 0 1 0 0), (1, V.i x)] (RS (dR d) M)) (by simp -dsimp [At]) ?_
  try clear h
  rintro ⟨sl, hp, bs⟩ ⟨rfl, h⟩
  simp only [sls_cons, sls_one, sls_nil] at h
  refine vc_cut (fun st => isR d x = true ∧ At [(0, .ptr 0 1 0 0), (1, V.i x)] (RS (dR d) M) st) ?_ ?_
  · simp -dsimp [h]
    refine gcallm (isR_spec x) [0, 1, 2] (by simp -dsimp [h, addAll]) RS_sel (by simp -dsimp [h, idx]) (RS_sub (fl_dR d) hM) (by simp) ?_
    rw [RS_merge (fl_dR d) hM]
    cases a : isR d x
    · have : rowR d x = [] := by simp [rowR, a]
      simp -dsimp [h, this, hallmarkref11_Store_Lo.rs]
    · simp -dsimp [h, At]
  try clear h
  rintro ⟨sl, hp, bs⟩ ⟨ha, rfl, h⟩
  simp only [sls_cons, sls_one, sls_nil] at h
  obtain ⟨i, rfl, hi, hi', hr⟩ := isR_row ha
  have hl := hd.l _ (List.getElem_mem hi)
  rw [hr]
  obtain ⟨l, hl'⟩ : ∃ l, l = d[i] := ⟨_, rfl⟩
  rw [← hl'] at hl ⊢
  have h0 : 0 < l.length := by omega
  have : l.headD 0 = l[0] := by cases l with | nil => simp at h0 | cons a l => rfl
  rw [this]
  simp -dsimp [h, hi, dR, ← hl', vInts, h0, hallmarkref11_Store_Lo.rs]

theorem hiR_spec (hd : DOk d) (hM : flR M) (x : Int) : DC Tryz.prog hallmarkref11_Store_Hi.id [.ptr 0 1 0 0, V.i x] (RS (dR d) M) (fun r H => r = V.i ((rowR d x).getLastD 0) ∧ H = RS (dR d) M) := by
  refine DC.of hallmarkref11_Store_Hi.ok (by simp) ?_
  unfold hallmarkref11_Store_Hi.ir
  refine vc_cut (At [(0, .ptr 0 1 0 0), (1, V.i x)] (RS (dR d) M)) (by simp -dsimp [At]) ?_
  try clear h
  rintro ⟨sl, hp, bs⟩ ⟨rfl, h⟩
  simp only [sls_cons, sls_one, sls_nil] at h
  refine vc_cut (fun st => isR d x = true ∧ At [(0, .ptr 0 1 0 0), (1, V.i x)] (RS (dR d) M) st) ?_ ?_
  · simp -dsimp [h]
    refine gcallm (isR_spec x) [0, 1, 2] (by simp -dsimp [h, addAll]) RS_sel (by simp -dsimp [h, idx]) (RS_sub (fl_dR d) hM) (by simp) ?_
    rw [RS_merge (fl_dR d) hM]
    cases a : isR d x
    · have : rowR d x = [] := by simp [rowR, a]
      simp -dsimp [h, this, hallmarkref11_Store_Hi.rs]
    · simp -dsimp [h, At]
  try clear h
  rintro ⟨sl, hp, bs⟩ ⟨ha, rfl, h⟩
  simp only [sls_cons, sls_one, sls_nil] at h
  obtain ⟨i, rfl, hi, hi', hr⟩ := isR_row ha
  have hl := hd.l _ (List.getElem_mem hi)
  rw [hr]
  obtain ⟨l, hl'⟩ : ∃ l, l = d[i] := ⟨_, rfl⟩
  rw [← hl'] at hl ⊢
  have h0 : l.length - 1 < l.length := by omega
  have hw : IntKind.i64.wrap ((l.length : Int) - 1) = ((l.length - 1 : Nat) : Int) := by rw [wrap64] <;> omega
  have : l.getLastD 0 = l[l.length - 1] := by
    rw [List.getLastD_eq_getLast?, List.getLast?_eq_getElem?, List.getElem?_eq_getElem h0]; rfl
  rw [this]
  simp -dsimp [h, hi, dR, ← hl', vInts, h0, hw, hallmarkref11_Store_Hi.rs]

theorem sizeR11_spec (hM : flR M) (x : Int) : DC Tryz.prog hallmarkref11_Store_Size.id [.ptr 0 1 0 0, V.i x] (RS (dR d) M) (fun r H => r = V.i (rowR d x).length ∧ H = RS (dR d) M) := by
  refine DC.of hallmarkref11_Store_Size.ok (by simp) ?_
  unfold hallmarkref11_Store_Size.ir
  refine vc_cut (At [(0, .ptr 0 1 0 0), (1, V.i x)] (RS (dR d) M)) (by simp -dsimp [At]) ?_
  try clear h
  rintro ⟨sl, hp, bs⟩ ⟨rfl, h⟩
  simp only [sls_cons, sls_one, sls_nil] at h
  refine vc_cut (fun st => isR d x = true ∧ At [(0, .ptr 0 1 0 0), (1, V.i x)] (RS (dR d) M) st) ?_ ?_
  · simp -dsimp [h]
    refine gcallm (isR_spec x) [0, 1, 2] (by simp -dsimp [h, addAll]) RS_sel (by simp -dsimp [h, idx]) (RS_sub (fl_dR d) hM) (by simp) ?_
    rw [RS_merge (fl_dR d) hM]
    cases a : isR d x
    · have : rowR d x = [] := by simp [rowR, a]
      simp -dsimp [h, this, hallmarkref11_Store_Size.rs]
    · simp -dsimp [h, At]
  try clear h
  rintro ⟨sl, hp, bs⟩ ⟨ha, rfl, h⟩
  simp only [sls_cons, sls_one, sls_nil] at h
  obtain ⟨i, rfl, hi, hi', hr⟩ := isR_row ha
  rw [hr]
  simp -dsimp [h, hi, dR, vInts, hallmarkref11_Store_Size.rs]

theorem hasR_spec (hd : DOk d) (hM : flR M) (x v : Int) : DC Tryz.prog hallmarkref11_Store_Has.id [.ptr 0 1 0 0, V.i x, V.i v] (RS (dR d) M) (fun r H => r = .bool (decide (v ∈ rowR d x)) ∧ H = RS (dR d) M) := by
  refine DC.of hallmarkref11_Store_Has.ok (by simp) ?_
  unfold hallmarkref11_Store_Has.ir
  have hl : (rowR d x).length ≤ 64 := by
    cases a : isR d x
    · simp [rowR, a]
    · obtain ⟨i, rfl, hi, hi', hr⟩ := isR_row a
      rw [hr]; exact (hd.l _ (List.getElem_mem hi)).2
  obtain ⟨l, hl'⟩ : ∃ l, l = rowR d x := ⟨_, rfl⟩
  rw [← hl'] at hl ⊢
  refine vc_cut (At [(0, .ptr 0 1 0 0), (1, V.i x), (2, V.i v)] (RS (dR d) M)) (by simp -dsimp [At]) ?_
  try clear h
  rintro ⟨sl, hp, bs⟩ ⟨rfl, h⟩
  simp only [sls_cons, sls_one, sls_nil] at h
  refine vc_cut (fun st => v ∉ l ∧ At [] (RS (dR d) M) st) ?_ ?_
  · refine vc_cut (At [(0, .ptr 0 1 0 0), (1, V.i x), (2, V.i v), (7, V.i 0)] (RS (dR d) M)) (by simp -dsimp [h, At]) ?_
    try clear h
    rintro ⟨sl, hp, bs⟩ ⟨rfl, h⟩
    simp only [sls_cons, sls_one, sls_nil] at h
    refine vc_block_of (vc_upto 3 (by simp) l.length (fun i st => (∀ j (h : j < l.length), j < i → l[j] ≠ v) ∧ At [(0, .ptr 0 1 0 0), (1, V.i x), (2, V.i v), (7, V.i i)] (RS (dR d) M) st) ⟨fun j _ h => by omega, rfl, by simpa using h⟩ ?_)
    clear h
    rintro i ⟨sl, hp, bs⟩ hi ⟨hx, rfl, h⟩
    simp only [sls_cons, sls_one] at h
    unfold hallmarkref11_Store_Has.b0
    by_cases hil : i < l.length
    · have hw : IntKind.i64.wrap ((i : Int) + 1) = ((i + 1 : Nat) : Int) := by rw [wrap64] <;> omega
      cases a : isR d x
      · have : rowR d x = [] := by simp [rowR, a]
        rw [hl', this] at hil; simp at hil
      · obtain ⟨q, rfl, hq1, hq2, hr⟩ := isR_row a
        rw [← hl'] at hr
        refine vc_cut (At [(0, .ptr 0 1 0 0), (1, V.i q), (2, V.i v), (7, V.i i)] (RS (dR d) M)) ?_ ?_
        · simp -dsimp [h]
          refine gcallm (isR_spec q) [0, 1, 2] (by simp -dsimp [h, addAll]) RS_sel (by simp -dsimp [h, idx]) (RS_sub (fl_dR d) hM) (by simp) ?_
          rw [RS_merge (fl_dR d) hM]
          simp -dsimp [h, At, a, hq1, dR, ← hr, vInts, hil]
        try clear h
        rintro ⟨sl, hp, bs⟩ ⟨rfl, h⟩
        simp only [sls_cons, sls_one, sls_nil] at h
        refine vc_cut (fun st => l[i] ≠ v ∧ At [(0, .ptr 0 1 0 0), (1, V.i q), (2, V.i v), (7, V.i i)] (RS (dR d) M) st) ?_ ?_
        · refine vc_block_of ?_
          by_cases e : l[i] = v
          · have he : v ∈ l := by rw [← e]; exact List.getElem_mem hil
            simp -dsimp [h, At, a, hq1, dR, ← hr, vInts, hil, e, he, hallmarkref11_Store_Has.rs]
          · simp -dsimp [h, At, a, hq1, dR, ← hr, vInts, hil, e]
        try clear h
        rintro ⟨sl, hp, bs⟩ ⟨hb, rfl, h⟩
        simp only [sls_cons, sls_one, sls_nil] at h
        simp -dsimp [h, At, hw, hil]
        intro j hj hji
        by_cases e : j = i
        · subst e; exact hb
        · exact hx j hj (by omega)
    · have hil' : i = l.length := by omega
      have hno : v ∉ l := fun hm => by
        obtain ⟨j, hj, e⟩ := List.getElem_of_mem hm
        exact hx j hj (by omega) e
      subst hil'
      simp -dsimp [h]
      refine gcallm (isR_spec x) [0, 1, 2] (by simp -dsimp [h, addAll]) RS_sel (by simp -dsimp [h, idx]) (RS_sub (fl_dR d) hM) (by simp) ?_
      rw [RS_merge (fl_dR d) hM]
      cases a : isR d x
      · simp -dsimp [h, At, hno]
      · obtain ⟨q, rfl, hq1, hq2, hr⟩ := isR_row a
        rw [← hl'] at hr
        simp -dsimp [h, At, a, hq1, dR, ← hr, vInts, hno]
  try clear h
  rintro ⟨sl, hp, bs⟩ ⟨hb, rfl, h⟩
  simp -dsimp [hb, hallmarkref11_Store_Has.rs]

theorem goesR_spec (kind x v y : Int) : Pf Tryz.prog hallmarkref11_Goes.id [.agg [V.i kind, V.i x, V.i v], V.i y] (.bool (goesB kind v y)) := by
  refine DC.of hallmarkref11_Goes.ok (by simp) ?_
  unfold hallmarkref11_Goes.ir goesB
  by_cases h1 : kind = 1
  · simp -dsimp [hallmarkref11_Goes.rs, h1]
  · by_cases h2 : kind = 2
    · simp -dsimp [hallmarkref11_Goes.rs, h1, h2]
    · by_cases h3 : kind = 3
      · simp -dsimp [hallmarkref11_Goes.rs, h1, h2, h3, Bool.beq_eq_decide_eq]
      · simp -dsimp [hallmarkref11_Goes.rs, h1, h2, h3]
end
end Go.Abs.G

namespace Go.Abs.G
open Go.Proofs
set_option linter.unusedVariables false
set_option linter.unusedSimpArgs false

section
variable {d : List (List Int)} {D M : List (List V)}

theorem trimR {P : Program} {f : FuncId} {xs : List V} {Q : V → Prop} {D' M' : V → List (List V)} (h : DC P f xs (RS D M) fun r H' => (∀ i ∈ r.ids, i < 3) ∧ Q r ∧ ∃ E, H' = RS (D' r) (M' r) ++ E) :
    DC P f xs (RS D M) fun r H' => Q r ∧ H' = RS (D' r) (M' r) :=
  h.trim fun x H' ⟨h1, h2, E, h3⟩ => ⟨3, by simp, h1, h2, by rw [h3]; rfl⟩

theorem valuesR_spec (hd : DOk d) (hM : flR M) (x : Int) : DC Tryz.prog hallmarkref11_Store_Values.id [.ptr 0 1 0 0, V.i x] (RS (dR d) M) (fun r H => r = vInts (rowR d x) ∧ H = RS (dR d) M) := by
  refine trimR (D' := fun _ => dR d) (M' := fun _ => M) (Q := fun r => r = vInts (rowR d x)) ?_
  refine DC.nilv (Q := fun r H' => (∀ i ∈ r.ids, i < 3) ∧ (r = vInts (rowR d x) ∨ r = .a (.slice none 0 0) ∧ rowR d x = []) ∧ ∃ E, H' = RS (dR d) M ++ E) 1 ?_ ?_
  rotate_left
  · rintro r H' ⟨h1, h2 | ⟨h2, h4⟩, h3⟩
    · exact .inl ⟨h1, h2, h3⟩
    · refine .inr ⟨h2, by simp [V.ids], ?_, h3⟩
      rw [h4]; rfl
  refine DC.of hallmarkref11_Store_Values.ok (by simp) ?_
  unfold hallmarkref11_Store_Values.ir
  refine vc_cut (At [(0, .ptr 0 1 0 0), (1, V.i x)] (RS (dR d) M)) (by simp -dsimp [At]) ?_
  try clear h
  rintro ⟨sl, hp, bs⟩ ⟨rfl, h⟩
  simp only [sls_cons, sls_one, sls_nil] at h
  refine vc_cut (fun st => isR d x = true ∧ At [(0, .ptr 0 1 0 0), (1, V.i x)] (RS (dR d) M) st) ?_ ?_
  · simp -dsimp [h]
    refine gcallm (isR_spec x) [0, 1, 2] (by simp -dsimp [h, addAll]) RS_sel (by simp -dsimp [h, idx]) (RS_sub (fl_dR d) hM) (by simp) ?_
    rw [RS_merge (fl_dR d) hM]
    cases a : isR d x
    · have : rowR d x = [] := by simp [rowR, a]
      simp -dsimp [h, this, hallmarkref11_Store_Values.rs, V.ids]
    · simp -dsimp [h, At]
  try clear h
  rintro ⟨sl, hp, bs⟩ ⟨ha, rfl, h⟩
  simp only [sls_cons, sls_one, sls_nil] at h
  obtain ⟨i, rfl, hi, hi', hr⟩ := isR_row ha
  have hl := hd.l _ (List.getElem_mem hi)
  rw [hr]
  obtain ⟨l, hl'⟩ : ∃ l, l = d[i] := ⟨_, rfl⟩
  rw [← hl'] at hl ⊢
  have t2 : List.take l.length (l.map fun n => [V.i n]) = l.map fun n => [V.i n] := List.take_of_length_le (by simp)
  simp -dsimp [h, hi, RS, dR, ← hl', vInts, hallmarkref11_Store_Values.rs, V.ids, t2]
  omega

def openR (d : List (List Int)) (n : Nat) : List Int := ((List.range n).filter fun i => decide (1 < ((d[i]?).getD []).length)).map fun (i : Nat) => (i : Int)
theorem openR_succ (d : List (List Int)) (n : Nat) : openR d (n + 1) = if 1 < ((d[n]?).getD []).length then openR d n ++ [(n : Int)] else openR d n := by
  unfold openR
  rw [List.range_succ, List.filter_append, List.map_append]
  by_cases h : 1 < ((d[n]?).getD []).length <;> simp [h]
theorem openR_len (d : List (List Int)) (n : Nat) : (openR d n).length ≤ n := by
  unfold openR
  rw [List.length_map]
  exact Nat.le_trans (List.length_filter_le _ _) (by simp)

theorem openR_spec (hd : DOk d) (hM : flR M) : DC Tryz.prog hallmarkref11_Store_Open.id [.ptr 0 1 0 0] (RS (dR d) M) (fun r H => r = vInts (openR d d.length) ∧ H = RS (dR d) M) := by
  have hn := hd.n
  refine trimR (D' := fun _ => dR d) (M' := fun _ => M) (Q := fun r => r = vInts (openR d d.length)) ?_
  refine DC.of hallmarkref11_Store_Open.ok (by simp) ?_
  unfold hallmarkref11_Store_Open.ir
  refine vc_cut (At [(0, .ptr 0 1 0 0)] (RS (dR d) M)) (by simp -dsimp [At]) ?_
  try clear h
  rintro ⟨sl, hp, bs⟩ ⟨rfl, h⟩
  simp only [sls_cons, sls_one, sls_nil] at h
  refine vc_cut (At [(0, .ptr 0 1 0 0), (3, nilS)] (RS (dR d) M)) (by simp -dsimp [At, h]) ?_
  try clear h
  rintro ⟨sl, hp, bs⟩ ⟨rfl, h⟩
  simp only [sls_cons, sls_one, sls_nil] at h
  refine vc_cut (fun st => (openR d d.length = [] ∧ At [(3, nilS)] (RS (dR d) M) st) ∨ At [(3, .own 4 1 0 (openR d d.length).length (openR d d.length).length)] (RS (dR d) M ++ [.res, .mem false [] ((openR d d.length).map fun n => [V.i n])]) st) ?_ ?_
  · refine vc_cut (At [(0, .ptr 0 1 0 0), (3, nilS), (4, V.i 0)] (RS (dR d) M)) (by simp -dsimp [At, h]) ?_
    try clear h
    rintro ⟨sl, hp, bs⟩ ⟨rfl, h⟩
    simp only [sls_cons, sls_one, sls_nil] at h
    refine vc_block_of (vc_upto 5 (by simp) d.length (fun i st => (openR d i = [] ∧ At [(0, .ptr 0 1 0 0), (3, nilS), (4, V.i i)] (RS (dR d) M) st) ∨ At [(0, .ptr 0 1 0 0), (3, .own 4 1 0 (openR d i).length (openR d i).length), (4, V.i i)] (RS (dR d) M ++ [.res, .mem false [] ((openR d i).map fun n => [V.i n])]) st) (.inl ⟨rfl, rfl, by simpa using h⟩) ?_)
    clear h
    rintro i ⟨sl, hp, bs⟩ hi hh
    have hT : List.map (limO 5) (RS (dR d) M) = RS (dR d) M := by simp [RS, limO, O.refs]
    unfold hallmarkref11_Store_Open.b0
    by_cases hil : i < d.length
    · have hw : IntKind.i64.wrap ((i : Int) + 1) = ((i + 1 : Nat) : Int) := by rw [wrap64] <;> omega
      have ho := openR_succ d i
      have hol := openR_len d i
      rw [List.getElem?_eq_getElem hil] at ho
      obtain ⟨l, hl'⟩ : ∃ l, l = d[i] := ⟨_, rfl⟩
      rw [← hl'] at ho
      replace ho : openR d (i + 1) = if 1 < l.length then openR d i ++ [(i : Int)] else openR d i := ho
      refine vc_cut (fun st => (openR d i = [] ∧ At [(0, .ptr 0 1 0 0), (3, nilS), (4, V.i i)] (RS (dR d) M) st) ∨ At [(0, .ptr 0 1 0 0), (3, .own 4 1 0 (openR d i).length (openR d i).length), (4, V.i i)] (RS (dR d) M ++ [.res, .mem false [] ((openR d i).map fun n => [V.i n])]) st) ?_ ?_
      · rcases hh with ⟨he, rfl, h⟩ | ⟨rfl, h⟩ <;> simp only [sls_cons, sls_one] at h
        · simp -dsimp [h, At, hil, he]
        · simp -dsimp [h, At, hil]
      clear hh
      rintro ⟨sl, hp, bs⟩ hh
      refine vc_cut (fun st => (openR d (i + 1) = [] ∧ At [(0, .ptr 0 1 0 0), (3, nilS), (4, V.i i)] (RS (dR d) M) st) ∨ ∃ E, At [(0, .ptr 0 1 0 0), (3, .own 4 1 0 (openR d (i + 1)).length (openR d (i + 1)).length), (4, V.i i)] (RS (dR d) M ++ [.res, .mem false [] ((openR d (i + 1)).map fun n => [V.i n])] ++ E) st) ?_ ?_
      · rw [ho]
        by_cases hg : 1 < l.length
        · have hg' : (1 : Int) < l.length := by omega
          rw [if_pos hg]
          rcases hh with ⟨he, rfl, h⟩ | ⟨rfl, h⟩ <;> simp only [sls_cons, sls_one] at h
          · simp -dsimp [h, At, hil, he, RS, dR, ← hl', vInts, hg']
          · simp -dsimp [h, At, hil, RS, dR, ← hl', vInts, hg']
            omega
        · have hg' : ¬ (1 : Int) < l.length := by omega
          rw [if_neg hg]
          rcases hh with ⟨he, rfl, h⟩ | ⟨rfl, h⟩ <;> simp only [sls_cons, sls_one] at h
          · simp -dsimp [h, At, hil, he, RS, dR, ← hl', vInts, hg']
          · simp -dsimp [h, At, hil, RS, dR, ← hl', vInts, hg']
      clear hh
      rintro ⟨sl, hp, bs⟩ hh
      rcases hh with ⟨he, rfl, h⟩ | ⟨E, rfl, h⟩ <;> simp only [sls_cons, sls_one] at h
      · simp -dsimp [h, At, hw, hil, he, RS, limO, O.refs]
      · simp -dsimp [h, At, hw, hil, RS, limO, O.refs]
    · have hil' : i = d.length := by omega
      subst hil'
      rcases hh with ⟨he, rfl, h⟩ | ⟨rfl, h⟩ <;> simp only [sls_cons, sls_one] at h
      · simp -dsimp [h, At, he]
      · simp -dsimp [h, At]
  rintro ⟨sl, hp, bs⟩ (⟨he, rfl, h⟩ | ⟨rfl, h⟩) <;> simp only [sls_cons, sls_one] at h
  · simp -dsimp [h, he, hallmarkref11_Store_Open.rs, V.ids, vInts]
  · have t2 : List.take (openR d d.length).length ((openR d d.length).map fun n => [V.i n]) = (openR d d.length).map fun n => [V.i n] := List.take_of_length_le (by simp)
    simp -dsimp [h, RS, hallmarkref11_Store_Open.rs, V.ids, vInts, t2]
end
end Go.Abs.G

namespace Go.Abs.G
open Go.Proofs
set_option linter.unusedVariables false
set_option linter.unusedSimpArgs false

def leftR (k v : Int) (l : List Int) : List Int := l.filter fun y => !goesB k v y
def cutR (d : List (List Int)) (k x v : Int) : List (List Int) × Bool × Bool :=
  if isR d x = false then (d, false, true)
  else if leftR k v (rowR d x) = [] then (d, false, false)
  else (d.set x.toNat (leftR k v (rowR d x)), decide ((leftR k v (rowR d x)).length < (rowR d x).length), true)

theorem leftR_succ (k v : Int) {l : List Int} {i : Nat} (h : i < l.length) : leftR k v (l.take (i + 1)) = if goesB k v l[i] then leftR k v (l.take i) else leftR k v (l.take i) ++ [l[i]] := by
  unfold leftR
  rw [List.take_succ_eq_append_getElem h, List.filter_append]
  cases g : goesB k v l[i] <;> simp [g]
theorem leftR_len (k v : Int) (l : List Int) : (leftR k v l).length ≤ l.length := List.length_filter_le _ _
theorem rowR_len {d : List (List Int)} (hd : DOk d) (x : Int) : (rowR d x).length ≤ 64 := by
  cases a : isR d x
  · simp [rowR, a]
  · obtain ⟨i, rfl, hi, hi', hr⟩ := isR_row a
    rw [hr]; exact (hd.l _ (List.getElem_mem hi)).2

section
variable {d : List (List Int)} {M : List (List V)}

theorem cutR_spec (hd : DOk d) (hM : flR M) (k x v : Int) : DC Tryz.prog hallmarkref11_Store_Cut.id [.ptr 0 1 0 0, .agg [V.i k, V.i x, V.i v]] (RS (dR d) M) (fun r H => r = .tup [.bool (cutR d k x v).2.1, .bool (cutR d k x v).2.2] ∧ H = RS (dR (cutR d k x v).1) M) := by
  refine trimR (D' := fun _ => dR (cutR d k x v).1) (M' := fun _ => M) (Q := fun r => r = .tup [.bool (cutR d k x v).2.1, .bool (cutR d k x v).2.2]) ?_
  refine DC.of hallmarkref11_Store_Cut.ok (by simp) ?_
  unfold hallmarkref11_Store_Cut.ir
  obtain ⟨C, hC⟩ : ∃ C, C = O.mem false [] [[V.i k, V.i x, V.i v]] := ⟨_, rfl⟩
  refine vc_cut (At [(0, .ptr 0 1 0 0), (3, .ptr 3 1 0 0)] (RS (dR d) M ++ [C])) (by simp -dsimp [At, hC]) ?_
  try clear h
  rintro ⟨sl, hp, bs⟩ ⟨rfl, h⟩
  simp only [sls_cons, sls_one, sls_nil] at h
  refine vc_cut (fun st => isR d x = true ∧ At [(0, .ptr 0 1 0 0), (3, .ptr 3 1 0 0)] (RS (dR d) M ++ [C]) st) ?_ ?_
  · simp -dsimp [h, hC]
    refine gcallm (isR_spec x) [0, 1, 2] (by simp -dsimp [h, addAll]) RSE_sel (by simp -dsimp [h, idx]) (RSE_sub (fl_dR d) hM) (by simp) ?_
    rw [RSE_merge (fl_dR d) hM]
    cases a : isR d x
    · simp -dsimp [h, cutR, a, hallmarkref11_Store_Cut.rs]
    · simp -dsimp [h, At, hC]
  try clear h
  rintro ⟨sl, hp, bs⟩ ⟨ha, rfl, h⟩
  simp only [sls_cons, sls_one, sls_nil] at h
  obtain ⟨q, rfl, hq, hq', hr⟩ := isR_row ha
  have hlen := rowR_len hd q
  obtain ⟨l, hl⟩ : ∃ l, l = rowR d q := ⟨_, rfl⟩
  have hdq : d[q] = l := by rw [hl, hr]
  have hcut : cutR d k q v = if leftR k v l = [] then (d, false, false) else (d.set q (leftR k v l), decide ((leftR k v l).length < l.length), true) := by
    unfold cutR; rw [ha, ← hl]; simp
  rw [← hl] at hlen
  refine vc_cut (At [(0, .ptr 0 1 0 0), (3, .ptr 3 1 0 0), (6, nilS)] (RS (dR d) M ++ [C])) (by simp -dsimp [At, h]) ?_
  try clear h
  rintro ⟨sl, hp, bs⟩ ⟨rfl, h⟩
  simp only [sls_cons, sls_one, sls_nil] at h
  refine vc_cut (fun st => (leftR k v l = [] ∧ At [(0, .ptr 0 1 0 0), (3, .ptr 3 1 0 0), (6, nilS)] (RS (dR d) M ++ [C]) st) ∨ At [(0, .ptr 0 1 0 0), (3, .ptr 3 1 0 0), (6, .own 5 1 0 (leftR k v l).length (leftR k v l).length)] (RS (dR d) M ++ [C, .res, .mem false [] ((leftR k v l).map fun n => [V.i n])]) st) ?_ ?_
  · refine vc_cut (At [(0, .ptr 0 1 0 0), (3, .ptr 3 1 0 0), (6, nilS), (7, V.i 0)] (RS (dR d) M ++ [C])) (by simp -dsimp [At, h]) ?_
    try clear h
    rintro ⟨sl, hp, bs⟩ ⟨rfl, h⟩
    simp only [sls_cons, sls_one, sls_nil] at h
    refine vc_block_of (vc_upto 6 (by simp) l.length (fun i st => (leftR k v (l.take i) = [] ∧ At [(0, .ptr 0 1 0 0), (3, .ptr 3 1 0 0), (6, nilS), (7, V.i i)] (RS (dR d) M ++ [C]) st) ∨ At [(0, .ptr 0 1 0 0), (3, .ptr 3 1 0 0), (6, .own 5 1 0 (leftR k v (l.take i)).length (leftR k v (l.take i)).length), (7, V.i i)] (RS (dR d) M ++ [C, .res, .mem false [] ((leftR k v (l.take i)).map fun n => [V.i n])]) st) (.inl ⟨rfl, rfl, by simpa using h⟩) ?_)
    clear h
    rintro i ⟨sl, hp, bs⟩ hi hh
    unfold hallmarkref11_Store_Cut.b0
    have hCl : limO 6 C = C := by rw [hC]; rfl
    by_cases hil : i < l.length
    · have hw : IntKind.i64.wrap ((i : Int) + 1) = ((i + 1 : Nat) : Int) := by rw [wrap64] <;> omega
      have ho := leftR_succ k v hil
      have hol := leftR_len k v (l.take i)
      have htl : (l.take i).length = i := by simp; omega
      obtain ⟨L, hL⟩ : ∃ L, L = leftR k v (l.take i) := ⟨_, rfl⟩
      obtain ⟨L2, hL2⟩ : ∃ L2, L2 = leftR k v (l.take (i + 1)) := ⟨_, rfl⟩
      rw [← hL] at hh ho hol
      rw [← hL2] at ho ⊢
      rw [htl] at hol
      refine vc_cut (fun st => (L = [] ∧ At [(0, .ptr 0 1 0 0), (3, .ptr 3 1 0 0), (6, nilS), (7, V.i i)] (RS (dR d) M ++ [C]) st) ∨ At [(0, .ptr 0 1 0 0), (3, .ptr 3 1 0 0), (6, .own 5 1 0 L.length L.length), (7, V.i i)] (RS (dR d) M ++ [C, .res, .mem false [] (L.map fun n => [V.i n])]) st) ?_ ?_
      · rcases hh with ⟨he, rfl, h⟩ | ⟨rfl, h⟩ <;> simp only [sls_cons, sls_one] at h
        · simp -dsimp [h, At, hil, he, hC, dR, hq, hdq, vInts]
        · simp -dsimp [h, At, hil, hC, dR, hq, hdq, vInts]
      clear hh
      rintro ⟨sl, hp, bs⟩ hh
      refine vc_cut (fun st => (L2 = [] ∧ At [(0, .ptr 0 1 0 0), (3, .ptr 3 1 0 0), (6, nilS), (7, V.i i)] (RS (dR d) M ++ [C]) st) ∨ ∃ E, At [(0, .ptr 0 1 0 0), (3, .ptr 3 1 0 0), (6, .own 5 1 0 L2.length L2.length), (7, V.i i)] (RS (dR d) M ++ [C, .res, .mem false [] (L2.map fun n => [V.i n])] ++ E) st) ?_ ?_
      · rw [ho]
        refine vc_block_of ?_
        obtain ⟨g, hg⟩ : ∃ g, g = goesB k v l[i] := ⟨_, rfl⟩
        rw [← hg]
        refine vc_cut (fun st => (L = [] ∧ At [(0, .ptr 0 1 0 0), (3, .ptr 3 1 0 0), (6, nilS), (7, V.i i), (40, .bool (!g))] (RS (dR d) M ++ [C]) st) ∨ At [(0, .ptr 0 1 0 0), (3, .ptr 3 1 0 0), (6, .own 5 1 0 L.length L.length), (7, V.i i), (40, .bool (!g))] (RS (dR d) M ++ [C, .res, .mem false [] (L.map fun n => [V.i n])]) st) ?_ ?_
        · rcases hh with ⟨he, rfl, h⟩ | ⟨rfl, h⟩ <;> simp only [sls_cons, sls_one] at h
          · simp -dsimp [h, hil, hC, dR, hq, hdq, vInts]
            refine gcall (goesR_spec k q v l[i]) (by simp -dsimp [h]) (by simp -dsimp [h]) ?_
            simp -dsimp [h, At, he, ← hg, hC, dR, vInts]
          · simp -dsimp [h, hil, hC, dR, hq, hdq, vInts]
            refine gcall (goesR_spec k q v l[i]) (by simp -dsimp [h]) (by simp -dsimp [h]) ?_
            simp -dsimp [h, At, ← hg, hC, dR, vInts]
        clear hh
        rintro ⟨sl, hp, bs⟩ hh
        cases g
        · rcases hh with ⟨he, rfl, h⟩ | ⟨rfl, h⟩ <;> simp only [sls_cons, sls_one] at h
          · simp -dsimp [h, At, hil, he, hC, dR, hq, hdq, vInts]
          · simp -dsimp [h, At, hil, hC, dR, hq, hdq, vInts]
            omega
        · rcases hh with ⟨he, rfl, h⟩ | ⟨rfl, h⟩ <;> simp only [sls_cons, sls_one] at h
          · simp -dsimp [h, At, he]
          · simp -dsimp [h, At]
      clear hh
      rintro ⟨sl, hp, bs⟩ hh
      rcases hh with ⟨he, rfl, h⟩ | ⟨E, rfl, h⟩ <;> simp only [sls_cons, sls_one] at h
      · simp -dsimp [h, At, hw, hil, he, hC, RSE_take 3, limO, O.refs]
      · simp -dsimp [h, At, hw, hil, hC, RSE_take 3, limO, O.refs]
    · have hil' : i = l.length := by omega
      subst hil'
      rw [List.take_length] at hh
      rcases hh with ⟨he, rfl, h⟩ | ⟨rfl, h⟩ <;> simp only [sls_cons, sls_one] at h
      · simp -dsimp [h, At, he, hC, dR, hq, hdq, vInts]
      · simp -dsimp [h, At, hC, dR, hq, hdq, vInts]
  obtain ⟨L, hL⟩ : ∃ L, L = leftR k v l := ⟨_, rfl⟩
  rw [← hL] at hcut ⊢
  rintro ⟨sl, hp, bs⟩ hh
  rcases hh with ⟨he, rfl, h⟩ | ⟨rfl, h⟩ <;> simp only [sls_cons, sls_one] at h
  · rw [if_pos he] at hcut
    simp -dsimp [h, hcut, hallmarkref11_Store_Cut.rs]
  · by_cases he : L = []
    · rw [if_pos he] at hcut
      simp -dsimp [h, he, hcut, hallmarkref11_Store_Cut.rs]
    · rw [if_neg he] at hcut
      have t2 : List.take L.length (L.map fun n => [V.i n]) = L.map fun n => [V.i n] := List.take_of_length_le (by simp)
      have hne : ¬ (L.length : Int) = 0 := fun e => he (List.length_eq_zero_iff.1 (by omega))
      have hd1 : (dR d).set q [vInts L] = dR (d.set q L) := by unfold dR; rw [List.map_set]
      refine vc_cut (fun st => ∃ E, At [(0, .ptr 0 1 0 0), (3, .ptr 3 1 0 0), (6, vInts L)] (RS (dR d) M ++ C :: E) st) ?_ ?_
      · simp -dsimp [h, At, he, t2, vInts]
      rintro ⟨sl, hp, bs⟩ ⟨E, rfl, h⟩; simp only [sls_cons, sls_one] at h
      have lt2 : decide ((L.length : Int) < l.length) = decide (L.length < l.length) := by rw [decide_eq_decide]; omega
      refine vc_cut (At [(0, .ptr 0 1 0 0), (3, .ptr 3 1 0 0), (6, vInts L), (8, .bool (decide (L.length < l.length)))] (RS (dR d) M ++ C :: E)) (by simp -dsimp [h, At, hC, dR, hq, hdq, vInts, lt2]) ?_
      try clear h
      rintro ⟨sl, hp, bs⟩ ⟨rfl, h⟩
      simp only [sls_cons, sls_one, sls_nil] at h
      refine vc_cut (fun st => ∃ E, At [(8, .bool (decide (L.length < l.length)))] (RS (dR (d.set q L)) M ++ E) st) ?_ ?_
      · simp -dsimp [h, At, hC, hq, hdq, vInts]
        have hdr : ∀ hh, (dR d)[q]'hh = [vInts d[q]] := fun _ => by simp [dR]
        rw [hdr]
        refine ⟨Nat.le_refl _, O.mem false [] [[V.i k, V.i ↑q, V.i v]] :: E, ?_⟩
        rw [← hd1]
        exact RSE_set1 ((dR d).set q [vInts L]) (by simp)
      rintro ⟨sl, hp, bs⟩ ⟨E, rfl, h⟩; simp only [sls_cons, sls_one] at h
      simp -dsimp [h, hcut, hallmarkref11_Store_Cut.rs]
end
end Go.Abs.G

namespace Go.Abs.G
open Go.Proofs
set_option linter.unusedVariables false
set_option linter.unusedSimpArgs false

section
variable {d : List (List Int)} {M : List (List V)}

theorem ownV_raw (hd : DOk d) : DC Tryz.prog hallmarkref11_own.id [vIntss d] [] (fun r H => (d = [] ∧ r = nilS ∧ ∃ E, H = [] ++ E) ∨ ∃ a E, r = .own 2 1 0 d.length d.length ∧ H = [] ++ (a :: .res :: .mem false [] (dR d) :: E)) := by
  have hn := hd.n
  refine DC.of hallmarkref11_own.ok (by simp) ?_
  unfold hallmarkref11_own.ir
  refine vc_cut (At [(0, vIntss d)] []) (by simp -dsimp [At, vIntss]) ?_
  try clear h
  rintro ⟨sl, hp, bs⟩ ⟨rfl, h⟩
  simp only [sls_cons, sls_one, sls_nil] at h
  refine vc_cut (At [(0, vIntss d), (3, nilS)] []) (by simp -dsimp [At, h]) ?_
  try clear h
  rintro ⟨sl, hp, bs⟩ ⟨rfl, h⟩
  simp only [sls_cons, sls_one, sls_nil] at h
  refine vc_cut (fun st => (d = [] ∧ At [(3, nilS)] [] st) ∨ ∃ a, At [(3, .own 2 1 0 d.length d.length)] ([] ++ [a, .res, .mem false [] (dR d)]) st) ?_ ?_
  · refine vc_cut (At [(0, vIntss d), (3, nilS), (4, V.i 0)] []) (by simp -dsimp [At, h]) ?_
    try clear h
    rintro ⟨sl, hp, bs⟩ ⟨rfl, h⟩
    simp only [sls_cons, sls_one, sls_nil] at h
    refine vc_block_of (vc_upto 3 (by simp) d.length (fun i st => (i = 0 ∧ At [(0, vIntss d), (3, nilS), (4, V.i i)] [] st) ∨ ∃ a, At [(0, vIntss d), (3, .own 2 1 0 i i), (4, V.i i)] ([] ++ [a, .res, .mem false [] (dR (d.take i))]) st) (.inl ⟨rfl, rfl, by simpa using h⟩) ?_)
    clear h
    rintro i ⟨sl, hp, bs⟩ hi hh
    unfold hallmarkref11_own.b0
    by_cases hil : i < d.length
    · have hw : IntKind.i64.wrap ((i : Int) + 1) = ((i + 1 : Nat) : Int) := by rw [wrap64] <;> omega
      obtain ⟨l, hl⟩ : ∃ l, l = d[i] := ⟨_, rfl⟩
      have hll := (hd.l _ (List.getElem_mem hil)).2
      rw [← hl] at hll
      have t2 : List.take l.length (l.map fun n => [V.i n]) = l.map fun n => [V.i n] := List.take_of_length_le (by simp)
      have hT : dR (d.take (i + 1)) = dR (d.take i) ++ [[vInts l]] := by rw [List.take_succ_eq_append_getElem hil, dR, List.map_append, hl]; rfl
      have hTl : (dR (d.take i)).length = i := by simp; omega
      rcases hh with ⟨rfl, rfl, h⟩ | ⟨a, rfl, h⟩ <;> simp only [sls_cons, sls_one] at h
      · refine vc_cut (At [(0, vIntss d), (3, nilS), (4, V.i 0)] []) (by simp -dsimp [h, At, hil, vIntss]) ?_
        try clear h
        rintro ⟨sl, hp, bs⟩ ⟨rfl, h⟩
        simp only [sls_cons, sls_one, sls_nil] at h
        refine vc_cut (fun st => ∃ a, At [(0, vIntss d), (3, .own 2 1 0 1 1), (4, V.i 0)] ([] ++ [a, .res, .mem false [] [[vInts l]]]) st) ?_ ?_
        · simp -dsimp [h, At, hil, vIntss, dR, ← hl, vInts, t2]
          omega
        rintro ⟨sl, hp, bs⟩ ⟨a, rfl, h⟩; simp only [sls_cons, sls_one] at h
        have hT' : dR (d.take 1) = [[vInts l]] := hT
        simp -dsimp [h, At, hil, hT', vIntss, limO, O.refs]
        rfl
      · refine vc_cut (At [(0, vIntss d), (3, .own 2 1 0 i i), (4, V.i i)] ([] ++ [a, .res, .mem false [] (dR (d.take i))])) (by simp -dsimp [h, At, hil, vIntss]) ?_
        try clear h
        rintro ⟨sl, hp, bs⟩ ⟨rfl, h⟩
        simp only [sls_cons, sls_one, sls_nil] at h
        refine vc_cut (fun st => ∃ E, At [(0, vIntss d), (3, .own 2 1 0 (i + 1) (i + 1)), (4, V.i i)] ([] ++ a :: .res :: .mem false [] (dR (d.take (i + 1))) :: E) st) ?_ ?_
        · obtain ⟨DD, hDD⟩ : ∃ DD, DD = dR (d.take i) := ⟨_, rfl⟩
          rw [← hDD] at hTl hT ⊢
          rw [hT]
          simp -dsimp [h, At, hil, vIntss, dR, ← hl, vInts, t2, hTl]
          omega
        rintro ⟨sl, hp, bs⟩ ⟨E, rfl, h⟩; simp only [sls_cons, sls_one] at h
        simp -dsimp [h, At, hil, hw, vIntss, limO, O.refs]
    · have hil' : i = d.length := by omega
      subst hil'
      rw [List.take_length] at hh
      rcases hh with ⟨e, rfl, h⟩ | ⟨a, rfl, h⟩ <;> simp only [sls_cons, sls_one] at h
      · have e' : d = [] := List.length_eq_zero_iff.1 e
        subst e'
        simp -dsimp [h, At, vIntss]
      · simp -dsimp [h, At, vIntss]
  rintro ⟨sl, hp, bs⟩ (⟨e, rfl, h⟩ | ⟨a, rfl, h⟩) <;> simp only [sls_cons, sls_one] at h
  · simp -dsimp [h, e, hallmarkref11_own.rs]
  · simp -dsimp [h, hallmarkref11_own.rs]

theorem ownO_raw (hd : DOk d) : DC Tryz.prog hallmarkref11_own.id [.own 0 1 0 d.length d.length] [.mem false [] (dR d)] (fun r H => (d = [] ∧ r = nilS ∧ ∃ E, H = [.mem false [] (dR d)] ++ E) ∨ ∃ a E, r = .own 3 1 0 d.length d.length ∧ H = [.mem false [] (dR d)] ++ (a :: .res :: .mem false [] (dR d) :: E)) := by
  have hn := hd.n
  refine DC.of hallmarkref11_own.ok (by simp) ?_
  unfold hallmarkref11_own.ir
  refine vc_cut (At [(0, .own 0 1 0 d.length d.length)] [.mem false [] (dR d)]) (by simp -dsimp [At, vIntss]) ?_
  try clear h
  rintro ⟨sl, hp, bs⟩ ⟨rfl, h⟩
  simp only [sls_cons, sls_one, sls_nil] at h
  refine vc_cut (At [(0, .own 0 1 0 d.length d.length), (3, nilS)] [.mem false [] (dR d)]) (by simp -dsimp [At, h]) ?_
  try clear h
  rintro ⟨sl, hp, bs⟩ ⟨rfl, h⟩
  simp only [sls_cons, sls_one, sls_nil] at h
  refine vc_cut (fun st => (d = [] ∧ At [(3, nilS)] [.mem false [] (dR d)] st) ∨ ∃ a, At [(3, .own 3 1 0 d.length d.length)] ([.mem false [] (dR d)] ++ [a, .res, .mem false [] (dR d)]) st) ?_ ?_
  · refine vc_cut (At [(0, .own 0 1 0 d.length d.length), (3, nilS), (4, V.i 0)] [.mem false [] (dR d)]) (by simp -dsimp [At, h]) ?_
    try clear h
    rintro ⟨sl, hp, bs⟩ ⟨rfl, h⟩
    simp only [sls_cons, sls_one, sls_nil] at h
    refine vc_block_of (vc_upto 4 (by simp) d.length (fun i st => (i = 0 ∧ At [(0, .own 0 1 0 d.length d.length), (3, nilS), (4, V.i i)] [.mem false [] (dR d)] st) ∨ ∃ a, At [(0, .own 0 1 0 d.length d.length), (3, .own 3 1 0 i i), (4, V.i i)] ([.mem false [] (dR d)] ++ [a, .res, .mem false [] (dR (d.take i))]) st) (.inl ⟨rfl, rfl, by simpa using h⟩) ?_)
    clear h
    rintro i ⟨sl, hp, bs⟩ hi hh
    unfold hallmarkref11_own.b0
    by_cases hil : i < d.length
    · have hw : IntKind.i64.wrap ((i : Int) + 1) = ((i + 1 : Nat) : Int) := by rw [wrap64] <;> omega
      obtain ⟨l, hl⟩ : ∃ l, l = d[i] := ⟨_, rfl⟩
      have hll := (hd.l _ (List.getElem_mem hil)).2
      rw [← hl] at hll
      have t2 : List.take l.length (l.map fun n => [V.i n]) = l.map fun n => [V.i n] := List.take_of_length_le (by simp)
      have hT : dR (d.take (i + 1)) = dR (d.take i) ++ [[vInts l]] := by rw [List.take_succ_eq_append_getElem hil, dR, List.map_append, hl]; rfl
      have hTl : (dR (d.take i)).length = i := by simp; omega
      rcases hh with ⟨rfl, rfl, h⟩ | ⟨a, rfl, h⟩ <;> simp only [sls_cons, sls_one] at h
      · refine vc_cut (At [(0, .own 0 1 0 d.length d.length), (3, nilS), (4, V.i 0)] [.mem false [] (dR d)]) (by simp -dsimp [h, At, hil, vIntss]) ?_
        try clear h
        rintro ⟨sl, hp, bs⟩ ⟨rfl, h⟩
        simp only [sls_cons, sls_one, sls_nil] at h
        refine vc_cut (fun st => ∃ a, At [(0, .own 0 1 0 d.length d.length), (3, .own 3 1 0 1 1), (4, V.i 0)] ([.mem false [] (dR d)] ++ [a, .res, .mem false [] [[vInts l]]]) st) ?_ ?_
        · simp -dsimp [h, At, hil, vIntss, dR, ← hl, vInts, t2]
          omega
        rintro ⟨sl, hp, bs⟩ ⟨a, rfl, h⟩; simp only [sls_cons, sls_one] at h
        have hT' : dR (d.take 1) = [[vInts l]] := hT
        simp -dsimp [h, At, hil, hT', vIntss, limO, O.refs]
        rfl
      · refine vc_cut (At [(0, .own 0 1 0 d.length d.length), (3, .own 3 1 0 i i), (4, V.i i)] ([.mem false [] (dR d)] ++ [a, .res, .mem false [] (dR (d.take i))])) (by simp -dsimp [h, At, hil, vIntss]) ?_
        try clear h
        rintro ⟨sl, hp, bs⟩ ⟨rfl, h⟩
        simp only [sls_cons, sls_one, sls_nil] at h
        refine vc_cut (fun st => ∃ E, At [(0, .own 0 1 0 d.length d.length), (3, .own 3 1 0 (i + 1) (i + 1)), (4, V.i i)] ([.mem false [] (dR d)] ++ a :: .res :: .mem false [] (dR (d.take (i + 1))) :: E) st) ?_ ?_
        · obtain ⟨DD, hDD⟩ : ∃ DD, DD = dR (d.take i) := ⟨_, rfl⟩
          rw [← hDD] at hTl hT ⊢
          rw [hT]
          simp -dsimp [h, At, hil, vIntss, dR, ← hl, vInts, t2, hTl]
          omega
        rintro ⟨sl, hp, bs⟩ ⟨E, rfl, h⟩; simp only [sls_cons, sls_one] at h
        simp -dsimp [h, At, hil, hw, vIntss, limO, O.refs]
    · have hil' : i = d.length := by omega
      subst hil'
      rw [List.take_length] at hh
      rcases hh with ⟨e, rfl, h⟩ | ⟨a, rfl, h⟩ <;> simp only [sls_cons, sls_one] at h
      · have e' : d = [] := List.length_eq_zero_iff.1 e
        subst e'
        simp -dsimp [h, At, vIntss]
      · simp -dsimp [h, At, vIntss]
  rintro ⟨sl, hp, bs⟩ (⟨e, rfl, h⟩ | ⟨a, rfl, h⟩) <;> simp only [sls_cons, sls_one] at h
  · simp -dsimp [h, e, hallmarkref11_own.rs]
  · simp -dsimp [h, hallmarkref11_own.rs]

theorem ownP (hd : DOk d) : Pf Tryz.prog hallmarkref11_own.id [vIntss d] (vIntss d) := by
  refine DC.nilv (Q := fun r H => (d = [] ∧ r = nilS) ∨ ∃ a E, r = .own 2 1 0 d.length d.length ∧ H = a :: .res :: .mem false [] (dR d) :: E) 1 ?_ ?_
  · refine (ownV_raw hd).mono ?_
    rintro r H (⟨h1, h2, _⟩ | ⟨a, E, h1, h2⟩)
    · exact .inl ⟨h1, h2⟩
    · exact .inr ⟨a, E, h1, h2⟩
  · rintro r H (⟨h1, h2⟩ | ⟨a, E, rfl, rfl⟩)
    · subst h1
      exact .inr ⟨h2, trivial, rfl⟩
    · left
      have t2 : List.take d.length (dR d) = dR d := List.take_of_length_le (by simp)
      exact ⟨by simp [V.fzP, O.isMem, O.rows, O.refs], by simp [V.fz, O.rows, t2, vIntss]; rfl⟩

theorem ownN (hd : DOk d) : DC Tryz.prog hallmarkref11_own.id [vIntss d] [] (fun r H => r = .own 0 1 0 d.length d.length ∧ H = [.mem false [] (dR d)]) := by
  refine DC.picks (Q := fun r H => ∃ q, r = .own q 1 0 d.length d.length ∧ H[q]? = some (.mem false [] (dR d))) ?_ ?_
  rotate_left
  · rintro r H ⟨q, rfl, h2⟩
    refine ⟨[q], ⟨by simp, fun i hi => ?_, fun i hi => ?_, fun i hi k hk => ?_⟩, by simp, by simp [V.ids], ?_, ?_⟩
    · simp only [List.mem_cons, List.not_mem_nil, or_false] at hi; subst hi; exact lt_of_get h2
    · simp only [List.mem_cons, List.not_mem_nil, or_false] at hi; subst hi; rw [getD_some h2]; simp
    · simp only [List.mem_cons, List.not_mem_nil, or_false] at hi; subst hi; rw [getD_some h2] at hk; simp [O.refs] at hk
    · simp [V.ren, idx]
    · simp only [sub, List.map_cons, List.map_nil, getD_some h2, O.ren, (fl_dR d).1]
  refine DC.ownnil (ownV_raw hd) ?_
  rintro r H (⟨h1, h2, E, h3⟩ | ⟨a, E, h1, h2⟩)
  · refine .inr ⟨1, .inl h2, H.length, by rw [h1]; rfl, ?_⟩
    rw [h1]; simp [dR]
  · exact .inl ⟨2, h1, by rw [h2]; rfl⟩

theorem ownC (hd : DOk d) : DC Tryz.prog hallmarkref11_own.id [.own 0 1 0 d.length d.length] [.mem false [] (dR d)] (fun r H => r = .own 1 1 0 d.length d.length ∧ H = [.mem false [] (dR d), .mem false [] (dR d)]) := by
  refine DC.picks (Q := fun r H => ∃ q, 0 < q ∧ r = .own q 1 0 d.length d.length ∧ H[0]? = some (.mem false [] (dR d)) ∧ H[q]? = some (.mem false [] (dR d))) ?_ ?_
  rotate_left
  · rintro r H ⟨q, hq, rfl, h1, h2⟩
    have hne : ¬ 0 = q := by omega
    refine ⟨[0, q], ⟨by simp [hne], fun i hi => ?_, fun i hi => ?_, fun i hi k hk => ?_⟩, by simp, by simp [V.ids], ?_, ?_⟩
    · simp only [List.mem_cons, List.not_mem_nil, or_false] at hi; rcases hi with rfl | rfl
      · exact lt_of_get h1
      · exact lt_of_get h2
    · simp only [List.mem_cons, List.not_mem_nil, or_false] at hi; rcases hi with rfl | rfl
      · rw [getD_some h1]; simp
      · rw [getD_some h2]; simp
    · simp only [List.mem_cons, List.not_mem_nil, or_false] at hi; rcases hi with rfl | rfl
      · rw [getD_some h1] at hk; simp [O.refs] at hk
      · rw [getD_some h2] at hk; simp [O.refs] at hk
    · have : (0 == q) = false := by simp; omega
      simp [V.ren, idx, List.idxOf_cons, this]
    · simp only [sub, List.map_cons, List.map_nil, getD_some h1, getD_some h2, O.ren, (fl_dR d).1]
  refine DC.ownnil (ownO_raw hd) ?_
  rintro r H (⟨h1, h2, E, h3⟩ | ⟨a, E, h1, h2⟩)
  · refine .inr ⟨1, .inl h2, H.length, by rw [h3]; simp, by rw [h1]; rfl, ?_, ?_⟩
    · rw [h3]; rfl
    · rw [h1]; simp [dR]
  · exact .inl ⟨3, by decide, h1, by rw [h2]; rfl, by rw [h2]; rfl⟩
end
end Go.Abs.G

namespace Go.Abs.G
open Go.Proofs
set_option linter.unusedVariables false
set_option linter.unusedSimpArgs false

section
variable {d : List (List Int)} {M : List (List V)}

theorem ownF_raw (hd : DOk d) : DC Tryz.prog hallmarkref11_own.id [.own 0 1 0 d.length d.length] [.mem false [] (dR d)] (fun r H => r = vIntss d ∧ ∃ E, H = [.mem false [] (dR d)] ++ E) := by
  have hn := hd.n
  refine DC.of hallmarkref11_ownF.ok (by simp) ?_
  unfold hallmarkref11_ownF.ir
  refine vc_cut (At [(0, .own 0 1 0 d.length d.length)] [.mem false [] (dR d)]) (by simp -dsimp [At, vIntss]) ?_
  try clear h
  rintro ⟨sl, hp, bs⟩ ⟨rfl, h⟩
  simp only [sls_cons, sls_one, sls_nil] at h
  refine vc_cut (At [(0, .own 0 1 0 d.length d.length), (3, nilS)] [.mem false [] (dR d)]) (by simp -dsimp [At, h]) ?_
  try clear h
  rintro ⟨sl, hp, bs⟩ ⟨rfl, h⟩
  simp only [sls_cons, sls_one, sls_nil] at h
  refine vc_cut (fun st => (d = [] ∧ At [(3, nilS)] [.mem false [] (dR d)] st) ∨ ∃ a, At [(3, .own 3 1 0 d.length d.length)] ([.mem false [] (dR d)] ++ [a, .res, .mem false [] (dR d)]) st) ?_ ?_
  · refine vc_cut (At [(0, .own 0 1 0 d.length d.length), (3, nilS), (4, V.i 0)] [.mem false [] (dR d)]) (by simp -dsimp [At, h]) ?_
    try clear h
    rintro ⟨sl, hp, bs⟩ ⟨rfl, h⟩
    simp only [sls_cons, sls_one, sls_nil] at h
    refine vc_block_of (vc_upto 4 (by simp) d.length (fun i st => (i = 0 ∧ At [(0, .own 0 1 0 d.length d.length), (3, nilS), (4, V.i i)] [.mem false [] (dR d)] st) ∨ ∃ a, At [(0, .own 0 1 0 d.length d.length), (3, .own 3 1 0 i i), (4, V.i i)] ([.mem false [] (dR d)] ++ [a, .res, .mem false [] (dR (d.take i))]) st) (.inl ⟨rfl, rfl, by simpa using h⟩) ?_)
    clear h
    rintro i ⟨sl, hp, bs⟩ hi hh
    unfold hallmarkref11_ownF.b0
    by_cases hil : i < d.length
    · have hw : IntKind.i64.wrap ((i : Int) + 1) = ((i + 1 : Nat) : Int) := by rw [wrap64] <;> omega
      obtain ⟨l, hl⟩ : ∃ l, l = d[i] := ⟨_, rfl⟩
      have hll := (hd.l _ (List.getElem_mem hil)).2
      rw [← hl] at hll
      have t2 : List.take l.length (l.map fun n => [V.i n]) = l.map fun n => [V.i n] := List.take_of_length_le (by simp)
      have hT : dR (d.take (i + 1)) = dR (d.take i) ++ [[vInts l]] := by rw [List.take_succ_eq_append_getElem hil, dR, List.map_append, hl]; rfl
      have hTl : (dR (d.take i)).length = i := by simp; omega
      rcases hh with ⟨rfl, rfl, h⟩ | ⟨a, rfl, h⟩ <;> simp only [sls_cons, sls_one] at h
      · refine vc_cut (At [(0, .own 0 1 0 d.length d.length), (3, nilS), (4, V.i 0)] [.mem false [] (dR d)]) (by simp -dsimp [h, At, hil, vIntss]) ?_
        try clear h
        rintro ⟨sl, hp, bs⟩ ⟨rfl, h⟩
        simp only [sls_cons, sls_one, sls_nil] at h
        refine vc_cut (fun st => ∃ a, At [(0, .own 0 1 0 d.length d.length), (3, .own 3 1 0 1 1), (4, V.i 0)] ([.mem false [] (dR d)] ++ [a, .res, .mem false [] [[vInts l]]]) st) ?_ ?_
        · simp -dsimp [h, At, hil, vIntss, dR, ← hl, vInts, t2]
          omega
        rintro ⟨sl, hp, bs⟩ ⟨a, rfl, h⟩; simp only [sls_cons, sls_one] at h
        have hT' : dR (d.take 1) = [[vInts l]] := hT
        simp -dsimp [h, At, hil, hT', vIntss, limO, O.refs]
        rfl
      · refine vc_cut (At [(0, .own 0 1 0 d.length d.length), (3, .own 3 1 0 i i), (4, V.i i)] ([.mem false [] (dR d)] ++ [a, .res, .mem false [] (dR (d.take i))])) (by simp -dsimp [h, At, hil, vIntss]) ?_
        try clear h
        rintro ⟨sl, hp, bs⟩ ⟨rfl, h⟩
        simp only [sls_cons, sls_one, sls_nil] at h
        refine vc_cut (fun st => ∃ E, At [(0, .own 0 1 0 d.length d.length), (3, .own 3 1 0 (i + 1) (i + 1)), (4, V.i i)] ([.mem false [] (dR d)] ++ a :: .res :: .mem false [] (dR (d.take (i + 1))) :: E) st) ?_ ?_
        · obtain ⟨DD, hDD⟩ : ∃ DD, DD = dR (d.take i) := ⟨_, rfl⟩
          rw [← hDD] at hTl hT ⊢
          rw [hT]
          simp -dsimp [h, At, hil, vIntss, dR, ← hl, vInts, t2, hTl]
          omega
        rintro ⟨sl, hp, bs⟩ ⟨E, rfl, h⟩; simp only [sls_cons, sls_one] at h
        simp -dsimp [h, At, hil, hw, vIntss, limO, O.refs]
    · have hil' : i = d.length := by omega
      subst hil'
      rw [List.take_length] at hh
      rcases hh with ⟨e, rfl, h⟩ | ⟨a, rfl, h⟩ <;> simp only [sls_cons, sls_one] at h
      · have e' : d = [] := List.length_eq_zero_iff.1 e
        subst e'
        simp -dsimp [h, At, vIntss]
      · simp -dsimp [h, At, vIntss]
  rintro ⟨sl, hp, bs⟩ (⟨e, rfl, h⟩ | ⟨a, rfl, h⟩) <;> simp only [sls_cons, sls_one] at h
  · simp -dsimp [h, e, hallmarkref11_ownF.rs, vIntss]
  · have t2 : List.take d.length (dR d) = dR d := List.take_of_length_le (by simp)
    simp -dsimp [h, hallmarkref11_ownF.rs, t2]
    rfl

theorem ownCF (hd : DOk d) : DC Tryz.prog hallmarkref11_own.id [.own 0 1 0 d.length d.length] [.mem false [] (dR d)] (fun r H => r = vIntss d ∧ H = [.mem false [] (dR d)]) :=
  (ownF_raw hd).trim fun r H ⟨h1, E, h2⟩ => ⟨1, by simp, by rw [h1]; simp [vIntss, V.ids], h1, by rw [h2]; simp [limO, O.refs]⟩
end
end Go.Abs.G

namespace Go.Abs.G
open Go.Proofs
set_option linter.unusedVariables false
set_option linter.unusedSimpArgs false
attribute [local simp] I.vc

theorem own_of_treeT {w : World} {F : Nat → Prop} {β : Nat → Hd} {H : Heap} {p c i j es l k : Nat} {refs refs2 : List Nat} {rows : List (List Ce)} {row : List Ce} {D : List (List V)} (hk : HOK w.heap H β F) (hp : H[p]? = some (.tree refs rows))
    (hi : rows[i]? = some row) (hj : row[j]? = some (.v (.own c es 0 l k))) (hc' : H[c]? = some (.mem false refs2 D)) (hD : D.length = k) : (β c).lo = 0 := by
  have hc : hdOf H β c = some ((β c).wt k) := by unfold hdOf; rw [hc']; simp [hD]
  rcases hk.ro p _ hp with hr | ⟨q1, q2, q3, q4, q5⟩
  · rw [hr.2.1] at hi; simp at hi
  · obtain ⟨u, Sx, hx, _⟩ := q4.cell hi hj
    have := hx.val
    cases this with
    | own hl hh => exact Nat.le_zero.1 ((hh _ hc).2 rfl).1

theorem close_RT {w : World} {β : Nat → Hd} {F : Nat → Prop} {H : Heap} {D M : List (List V)} {rf : List Nat} {p a b l : Nat} (hk : HOK w.heap H β F)
    (h0 : H[p]? = some (.mem false rf [[.own a 1 0 D.length D.length, .own b 1 0 l M.length]])) (ha : H[a]? = some (.mem false [] D)) (hb : H[b]? = some (.mem false [] M)) (hD : flR D) (hM : flR M) (hl : l ≤ M.length) (hMl : flR (M.take l))
    (na : a ≠ p) (nb : b ≠ p) (nab : a ≠ b) (hlo : (β p).lo = 0) : ∃ β' H2, Adv F w H β w H2 β' ∧ H2[p]? = some (R1 D (M.take l)) ∧ H2.length = H.length ∧ ∀ q, q ≠ p → q ≠ a → q ≠ b → H2[q]? = H[q]? := by
  obtain ⟨β1, a1⟩ := adv_toTree hk h0 hlo
  generalize hP : O.tree rf (flatC [[.own a 1 0 D.length D.length, .own b 1 0 l M.length]]) = P at a1
  have p1 : (H.set p P)[p]? = some (.tree rf [[.v (.own a 1 0 D.length D.length), .v (.own b 1 0 l M.length)]]) := by rw [get_set h0, ← hP]; rfl
  have q1 : (H.set p P)[a]? = some (.mem false [] D) := by rw [getElem?_set_ne' na]; exact ha
  have r1 : (H.set p P)[b]? = some (.mem false [] M) := by rw [getElem?_set_ne' nb]; exact hb
  have la : (β1 a).lo = 0 := own_of_treeT (i := 0) (j := 0) a1.hok p1 rfl rfl q1 rfl
  have hl1 : (H.set p P).length = H.length := List.length_set
  have s1 : ∀ q, q ≠ p → q ≠ a → q ≠ b → (H.set p P)[q]? = H[q]? := fun q h _ _ => getElem?_set_ne' h
  generalize H.set p P = H1 at a1 p1 q1 r1 hl1 s1
  obtain ⟨β2, a2⟩ := adv_toTree a1.hok q1 la
  have p2 : (H1.set a (.tree [] (flatC D)))[p]? = some (.tree rf [[.v (.own a 1 0 D.length D.length), .v (.own b 1 0 l M.length)]]) := by rw [getElem?_set_ne' (Ne.symm na)]; exact p1
  have q2 : (H1.set a (.tree [] (flatC D)))[a]? = some (.tree [] (flatC D)) := get_set q1
  have r2 : (H1.set a (.tree [] (flatC D)))[b]? = some (.mem false [] M) := by rw [getElem?_set_ne' (Ne.symm nab)]; exact r1
  have hl2 : (H1.set a (.tree [] (flatC D))).length = H.length := by rw [List.length_set]; exact hl1
  have s2 : ∀ q, q ≠ p → q ≠ a → q ≠ b → (H1.set a (.tree [] (flatC D)))[q]? = H[q]? := fun q h h' h2 => by rw [getElem?_set_ne' h']; exact s1 q h h' h2
  generalize H1.set a (.tree [] (flatC D)) = H2 at a2 p2 q2 r2 hl2 s2
  have lb : (β2 b).lo = 0 := own_of_treeT (i := 0) (j := 1) a2.hok p2 rfl rfl r2 rfl
  obtain ⟨β2', a2'⟩ := adv_toTree a2.hok r2 lb
  have p2' : (H2.set b (.tree [] (flatC M)))[p]? = some (.tree rf [[.v (.own a 1 0 D.length D.length), .v (.own b 1 0 l M.length)]]) := by rw [getElem?_set_ne' (Ne.symm nb)]; exact p2
  have q2' : (H2.set b (.tree [] (flatC M)))[a]? = some (.tree [] (flatC D)) := by rw [getElem?_set_ne' nab]; exact q2
  have r2' : (H2.set b (.tree [] (flatC M)))[b]? = some (.tree [] (flatC M)) := get_set r2
  have hl2' : (H2.set b (.tree [] (flatC M))).length = H.length := by rw [List.length_set]; exact hl2
  have s2' : ∀ q, q ≠ p → q ≠ a → q ≠ b → (H2.set b (.tree [] (flatC M)))[q]? = H[q]? := fun q h h' h2 => by rw [getElem?_set_ne' h2]; exact s2 q h h' h2
  generalize H2.set b (.tree [] (flatC M)) = H2' at a2' p2' q2' r2' hl2' s2'
  obtain ⟨β3, a3⟩ := adv_pack (i := 0) (j := 0) a2'.hok p2' q2' (Ne.symm na) rfl rfl (by simp [flatC])
  generalize hP3 : O.tree (rf ++ []) _ = P3 at a3
  have p3 : ((H2'.set a O.dead).set p P3)[p]? = some (.tree (rf ++ []) [[.n 1 (flatC D), .v (.own b 1 0 l M.length)]]) := by rw [get_set (x := _) (by rw [getElem?_set_ne' (Ne.symm na)]; exact p2'), ← hP3]; rfl
  have r3 : ((H2'.set a O.dead).set p P3)[b]? = some (.tree [] (flatC M)) := by rw [getElem?_set_ne' nb, getElem?_set_ne' (Ne.symm nab)]; exact r2'
  have hl3 : ((H2'.set a O.dead).set p P3).length = H.length := by rw [List.length_set, List.length_set]; exact hl2'
  have s3 : ∀ q, q ≠ p → q ≠ a → q ≠ b → ((H2'.set a O.dead).set p P3)[q]? = H[q]? := fun q h h' h2 => by rw [getElem?_set_ne' h, getElem?_set_ne' h']; exact s2' q h h' h2
  generalize (H2'.set a O.dead).set p P3 = H3 at a3 p3 r3 hl3 s3
  obtain ⟨β4, a4⟩ := adv_packT (i := 0) (j := 1) (l := l) (k := M.length) a3.hok p3 r3 (Ne.symm nb) rfl rfl (by simp [flatC]) hl
  have hfl : (flatC M).take l = flatC (M.take l) := by simp [flatC, List.map_take]
  rw [hfl] at a4
  generalize hP4 : O.tree (rf ++ [] ++ []) _ = P4 at a4
  have p4 : ((H3.set b O.dead).set p P4)[p]? = some (.tree (rf ++ [] ++ []) [[.n 1 (flatC D), .n 1 (flatC (M.take l))]]) := by rw [get_set (x := _) (by rw [getElem?_set_ne' (Ne.symm nb)]; exact p3), ← hP4]; rfl
  have hl4 : ((H3.set b O.dead).set p P4).length = H.length := by rw [List.length_set, List.length_set]; exact hl3
  have s4 : ∀ q, q ≠ p → q ≠ a → q ≠ b → ((H3.set b O.dead).set p P4)[q]? = H[q]? := fun q h h' h2 => by rw [getElem?_set_ne' h, getElem?_set_ne' h2]; exact s3 q h h' h2
  generalize (H3.set b O.dead).set p P4 = H4 at a4 p4 hl4 s4
  obtain ⟨β5, a5⟩ := adv_refsT (refs' := []) a4.hok p4 (by simp [Ce.idsR, Ce.idsL, Ce.ids, hD.2, hMl.2])
  exact ⟨β5, _, a1.trans (a2.trans (a2'.trans (a3.trans (a4.trans a5)))), get_set p4, by rw [List.length_set]; exact hl4, fun q h h' h2 => by rw [getElem?_set_ne' h]; exact s4 q h h' h2⟩


theorem DC.closedR {P : Program} {f : FuncId} {ys : List V} {D M : List (List V)} {Q : V → Prop} {D' M' : List (List V)} {l : Nat} (hD : flR D) (hM : flR M) (hD' : flR D') (hM' : flR M') (hMl : flR (M'.take l)) (hl : l ≤ M'.length)
    (h : DC P f (.ptr 0 1 0 0 :: ys) (RS D M) fun r H => Q r ∧ ∃ rf q, q ≠ 0 ∧ q ≠ 2 ∧ H[0]? = some (.mem false rf [[.own q 1 0 D'.length D'.length, .own 2 1 0 l M'.length]]) ∧ H[q]? = some (.mem false [] D') ∧ H[2]? = some (.mem false [] M'))
    (hq : ∀ r, Q r → r.ids = []) : DC P f (.ptr 0 1 0 0 :: ys) [R1 D M] fun r H => Q r ∧ H = [R1 D' (M'.take l)] := by
  refine DC.trim (Q := fun r H => Q r ∧ H[0]? = some (R1 D' (M'.take l))) ?_ ?_
  rotate_left
  · rintro r H ⟨h1, h2⟩
    refine ⟨1, by simp, by rw [hq r h1]; simp, h1, ?_⟩
    match H, h2 with
    | x :: tl, h2 =>
      simp at h2
      subst h2
      simp [R1, limO, O.refs]
  refine DC.pre (open_R hD hM) (DC.post' h ?_)
  rintro x H1 ⟨h1, rf, q, q0, q2, g0, g1, g2⟩ w β F vs hk hr
  obtain ⟨β', H2, a, h2, _⟩ := close_RT (p := 0) (a := q) (b := 2) hk g0 g1 g2 hD' hM' hl hMl q0 (by simp) q2 (lo_arg (i := 1) hr rfl (by unfold hdOf; rw [g0]; rfl))
  exact ⟨β', H2, a, h1, h2⟩
end Go.Abs.G

namespace Go.Abs.G
open Go.Proofs
set_option linter.unusedVariables false
set_option linter.unusedSimpArgs false

section
variable {d : List (List Int)} {ms : List (List (List Int))}

theorem RSE_set2 {D M M' : List (List V)} {E : Heap} : ((RS D M ++ E).set 2 (.mem false [] M')).set 0 (.mem false [1, 2] [[.own 1 1 0 D.length D.length, .own 2 1 0 M'.length M'.length]]) = RS D M' ++ E := rfl

theorem markR_spec (hr : ROk d ms) : DC Tryz.prog hallmarkref11_Store_Mark.id [.ptr 0 1 0 0] (RS (dR d) (mR ms)) (fun r H => r = V.i ms.length ∧ H = RS (dR d) (mR (ms ++ [d]))) := by
  have hk := hr.k
  have hn := hr.d.n
  refine trimR (D' := fun _ => dR d) (M' := fun _ => mR (ms ++ [d])) (Q := fun r => r = V.i ms.length) ?_
  refine DC.of hallmarkref11_Store_Mark.ok (by simp) ?_
  unfold hallmarkref11_Store_Mark.ir
  have hm1 : mR (ms ++ [d]) = mR ms ++ [[vIntss d]] := by simp [mR]
  have t2 : List.take d.length (dR d) = dR d := List.take_of_length_le (by simp)
  refine vc_cut (At [(0, .ptr 0 1 0 0)] (RS (dR d) (mR ms))) (by simp -dsimp [At]) ?_
  try clear h
  rintro ⟨sl, hp, bs⟩ ⟨rfl, h⟩
  simp only [sls_cons, sls_one, sls_nil] at h
  refine vc_cut (fun st => ∃ E, At [(0, .ptr 0 1 0 0)] (RS (dR d) (mR (ms ++ [d])) ++ E) st) ?_ ?_
  · simp -dsimp [h]
    refine gcalla1 (ownCF hr.d) 1 (by simp -dsimp [h, addAll, V.ids, V.idsL]) (by simp -dsimp [h]) ⟨rfl, fun f => by simp [O.ren, (fl_dR d).1], fun e => by cases e⟩ ⟨rfl, fun f => by simp [O.ren, (fl_dR d).1], fun e => by cases e⟩ (by simp) (by simp -dsimp [h]) (by simp -dsimp [h, idx]) (by simp) ?_
    simp -dsimp [h, At, hm1, vIntss]
    have e1 : (RS (dR d) (mR ms) ++ [O.res, O.res]).set 1 (.mem false [] (dR d)) = RS (dR d) (mR ms) ++ [O.res, O.res] := rfl
    refine ⟨by omega, [.res, .res], ?_⟩
    rw [e1]
    have := RSE_set2 (D := dR d) (M := mR ms) (M' := mR ms ++ [[vIntss d]]) (E := [.res, .res])
    simpa [vIntss] using this
  rintro ⟨sl, hp, bs⟩ ⟨E, rfl, h⟩; simp only [sls_cons, sls_one] at h
  have hw : IntKind.i64.wrap (ms.length : Int) = ms.length := by rw [wrap64] <;> omega
  simp -dsimp [h, hw, hallmarkref11_Store_Mark.rs]

theorem backR_no (hr : ROk d ms) (j : Int) (hj : ¬ (0 ≤ j ∧ j < ms.length)) : DC Tryz.prog hallmarkref11_Store_Back.id [.ptr 0 1 0 0, V.i j] (RS (dR d) (mR ms)) (fun r H => r = .bool false ∧ H = RS (dR d) (mR ms)) := by
  refine DC.of hallmarkref11_Store_Back.ok (by simp) ?_
  unfold hallmarkref11_Store_Back.ir
  refine vc_cut (At [(0, .ptr 0 1 0 0), (1, V.i j)] (RS (dR d) (mR ms))) (by simp -dsimp [At]) ?_
  try clear h
  rintro ⟨sl, hp, bs⟩ ⟨rfl, h⟩
  simp only [sls_cons, sls_one, sls_nil] at h
  refine vc_cut (fun st => False) ?_ (by rintro s h; exact h.elim)
  by_cases h0 : j < 0
  · simp -dsimp [h, h0, hallmarkref11_Store_Back.rs]
  · have h1 : (ms.length : Int) ≤ j := by omega
    simp -dsimp [h, h0, h1, hallmarkref11_Store_Back.rs]

theorem backR_yes (hr : ROk d ms) (j : Nat) (hj : j < ms.length) : DC Tryz.prog hallmarkref11_Store_Back.id [.ptr 0 1 0 0, V.i j] (RS (dR d) (mR ms)) (fun r H => r = .bool true ∧ ∃ rf q, q ≠ 0 ∧ q ≠ 2 ∧ H[0]? = some (.mem false rf [[.own q 1 0 ms[j].length ms[j].length, .own 2 1 0 j ms.length]]) ∧ H[q]? = some (.mem false [] (dR ms[j])) ∧ H[2]? = some (.mem false [] (mR ms))) := by
  have hk := hr.k
  have hnj := hr.m _ (List.getElem_mem hj)
  refine DC.of hallmarkref11_Store_Back.ok (by simp) ?_
  unfold hallmarkref11_Store_Back.ir
  refine vc_cut (At [(0, .ptr 0 1 0 0), (1, V.i j)] (RS (dR d) (mR ms))) (by simp -dsimp [At]) ?_
  try clear h
  rintro ⟨sl, hp, bs⟩ ⟨rfl, h⟩
  simp only [sls_cons, sls_one, sls_nil] at h
  have h0 : ¬ (j : Int) < 0 := by omega
  have h1 : ¬ (ms.length : Int) ≤ j := by omega
  refine vc_cut (At [(0, .ptr 0 1 0 0), (1, V.i j)] (RS (dR d) (mR ms))) (by simp -dsimp [h, At, h0, h1]) ?_
  try clear h
  rintro ⟨sl, hp, bs⟩ ⟨rfl, h⟩
  simp only [sls_cons, sls_one, sls_nil] at h
  have hmj : ∀ hh, (mR ms)[j]'hh = [vIntss ms[j]] := fun _ => by simp [mR]
  obtain ⟨e, he⟩ : ∃ e, e = ms[j] := ⟨_, rfl⟩
  rw [← he] at hmj hnj ⊢
  refine vc_cut (At [(0, .ptr 0 1 0 0), (1, V.i j)] [.mem false [1, 2, 3] [[.own 3 1 0 e.length e.length, .own 2 1 0 ms.length ms.length]], .mem false [] (dR d), .mem false [] (mR ms), .mem false [] (dR e)]) ?_ ?_
  · simp -dsimp [h, hj, hmj]
    refine gcallo (ownN hnj) (by simp -dsimp [h]) (by simp -dsimp [h, vIntss]) (by simp) ?_
    simp -dsimp [h, At]
    have := (fl_dR e).1 (fun x => 3 + x)
    rw [this]
    rfl
  try clear h
  rintro ⟨sl, hp, bs⟩ ⟨rfl, h⟩
  simp only [sls_cons, sls_one, sls_nil] at h
  have hj' : j ≤ ms.length := by omega
  refine vc_cut (fun st => ∃ rf, At [] [.mem false rf [[.own 3 1 0 e.length e.length, .own 2 1 0 j ms.length]], .mem false [] (dR d), .mem false [] (mR ms), .mem false [] (dR e)] st) ?_ ?_
  · simp -dsimp [h, At, hj']
  rintro ⟨sl, hp, bs⟩ ⟨rf, rfl, h⟩
  simp -dsimp [hallmarkref11_Store_Back.rs]
  exact ⟨rf, 2, by decide, ⟨rfl, rfl⟩, rfl⟩
end
end Go.Abs.G

namespace Go.Abs.G
open Go.Proofs
set_option linter.unusedVariables false
set_option linter.unusedSimpArgs false

section
variable {d : List (List Int)} {ms : List (List (List Int))}

theorem copyR_open (hr : ROk d ms) : DC Tryz.prog hallmarkref11_Store_Copy.id [.ptr 0 1 0 0] (RS (dR d) (mR ms)) (fun r H => r = .ptr 3 1 0 0 ∧ ∃ rf E, H = RS (dR d) (mR ms) ++ (.mem false rf [[.own 4 1 0 d.length d.length, .own 5 1 0 ms.length ms.length]] :: .mem false [] (dR d) :: .mem false [] (mR ms) :: E)) := by
  have hk := hr.k
  have hn := hr.d.n
  refine DC.of hallmarkref11_Store_Copy.ok (by simp) ?_
  unfold hallmarkref11_Store_Copy.ir
  refine vc_cut (At [(0, .ptr 0 1 0 0)] (RS (dR d) (mR ms))) (by simp -dsimp [At]) ?_
  try clear h
  rintro ⟨sl, hp, bs⟩ ⟨rfl, h⟩
  simp only [sls_cons, sls_one, sls_nil] at h
  refine vc_cut (At [(0, .ptr 0 1 0 0), (3, .ptr 3 1 0 0)] (RS (dR d) (mR ms) ++ [.mem false [4] [[.own 4 1 0 d.length d.length, nilS]], .mem false [] (dR d)])) ?_ ?_
  · simp -dsimp [h]
    refine gcallm1 (ownC hr.d) 1 (by simp -dsimp [h, addAll, V.ids, V.idsL]) (by simp -dsimp [h]) ⟨rfl, fun f => by simp [O.ren, (fl_dR d).1], fun e => by cases e⟩ ⟨rfl, fun f => by simp [O.ren, (fl_dR d).1], fun e => by cases e⟩ (by
      intro q hq
      simp only [List.mem_cons, List.not_mem_nil, or_false] at hq
      subst hq
      exact ⟨rfl, fun f => by simp [O.ren, (fl_dR d).1], fun e => by cases e⟩) (by simp -dsimp [h, idx]) (by simp) ?_
    have e1 : (RS (dR d) (mR ms) ++ [O.res]).set 1 (.mem false [] (dR d)) = RS (dR d) (mR ms) ++ [O.res] := rfl
    rw [e1]
    simp -dsimp [h, At, V.ids, V.idsL, back]
  try clear h
  rintro ⟨sl, hp, bs⟩ ⟨rfl, h⟩
  simp only [sls_cons, sls_one, sls_nil] at h
  refine vc_cut (At [(0, .ptr 0 1 0 0), (3, .ptr 3 1 0 0)] (RS (dR d) (mR ms) ++ [.mem false [4, 5] [[.own 4 1 0 d.length d.length, .own 5 1 0 ms.length ms.length]], .mem false [] (dR d), .mem false [] (mR ms)])) ?_ ?_
  · refine vc_cut (At [(0, .ptr 0 1 0 0), (3, .ptr 3 1 0 0), (4, V.i 0)] (RS (dR d) (mR ms) ++ [.mem false [4, 5] [[.own 4 1 0 d.length d.length, .own 5 1 0 0 0]], .mem false [] (dR d), .mem false [] []])) ?_ ?_
    · simp -dsimp [h]
      refine ⟨_, Weak.nil1 (id := 3) (e := 1) (t := 3) (refs := [4]) (x := .own 4 1 0 d.length d.length) (by simp -dsimp) (by simp [V.ids]) (by simp -dsimp [h]), ?_⟩
      simp -dsimp [h, At]
    try clear h
    rintro ⟨sl, hp, bs⟩ ⟨rfl, h⟩
    simp only [sls_cons, sls_one, sls_nil] at h
    refine vc_block_of (vc_upto 6 (by simp) ms.length (fun i st => At [(0, .ptr 0 1 0 0), (3, .ptr 3 1 0 0), (4, V.i i)] (RS (dR d) (mR ms) ++ [.mem false [4, 5] [[.own 4 1 0 d.length d.length, .own 5 1 0 i i]], .mem false [] (dR d), .mem false [] (mR (ms.take i))]) st) ⟨rfl, by simpa using h⟩ ?_)
    clear h
    rintro i ⟨sl, hp, bs⟩ hi ⟨rfl, h⟩
    simp only [sls_cons, sls_one] at h
    unfold hallmarkref11_Store_Copy.b0
    by_cases hil : i < ms.length
    · have hw : IntKind.i64.wrap ((i : Int) + 1) = ((i + 1 : Nat) : Int) := by rw [wrap64] <;> omega
      obtain ⟨e, he⟩ : ∃ e, e = ms[i] := ⟨_, rfl⟩
      have hei := hr.m _ (List.getElem_mem hil)
      rw [← he] at hei
      have hmi : ∀ hh, (mR ms)[i]'hh = [vIntss e] := fun _ => by simp [mR, he]
      have hT : mR (ms.take (i + 1)) = mR (ms.take i) ++ [[vIntss e]] := by rw [List.take_succ_eq_append_getElem hil, mR, List.map_append, he]; rfl
      have hTl : (mR (ms.take i)).length = i := by simp; omega
      refine vc_cut (At [(0, .ptr 0 1 0 0), (3, .ptr 3 1 0 0), (4, V.i i)] (RS (dR d) (mR ms) ++ [.mem false [4, 5] [[.own 4 1 0 d.length d.length, .own 5 1 0 i i]], .mem false [] (dR d), .mem false [] (mR (ms.take i))])) (by simp -dsimp [h, At, hil]) ?_
      try clear h
      rintro ⟨sl, hp, bs⟩ ⟨rfl, h⟩
      simp only [sls_cons, sls_one, sls_nil] at h
      obtain ⟨DD, hDD⟩ : ∃ DD, DD = mR (ms.take i) := ⟨_, rfl⟩
      rw [← hDD] at hTl hT ⊢
      rw [hT]
      refine vc_cut (fun st => ∃ E, At [(0, .ptr 0 1 0 0), (3, .ptr 3 1 0 0), (4, V.i i)] (RS (dR d) (mR ms) ++ (.mem false [4, 5] [[.own 4 1 0 d.length d.length, .own 5 1 0 (i + 1) (i + 1)]] :: .mem false [] (dR d) :: .mem false [] (DD ++ [[vIntss e]]) :: E)) st) ?_ ?_
      · simp -dsimp [h, hil, hmi]
        refine gcall (ownP hei) (by simp -dsimp [h]) (by simp -dsimp [h, vIntss]) ?_
        simp -dsimp [h, At, hTl, vIntss]
        trace_state
        omega
      rintro ⟨sl, hp, bs⟩ ⟨E, rfl, h⟩; simp only [sls_cons, sls_one] at h
      simp -dsimp [h, At, hil, hw, RSE_take 3, limO, O.refs]
    · have hil' : i = ms.length := by omega
      subst hil'
      rw [List.take_length]
      simp -dsimp [h, At]
  try clear h
  rintro ⟨sl, hp, bs⟩ ⟨rfl, h⟩
  simp only [sls_cons, sls_one, sls_nil] at h
  simp -dsimp [h, hallmarkref11_Store_Copy.rs]
end
end Go.Abs.G

namespace Go.Abs.G
open Go.Proofs
set_option linter.unusedVariables false
set_option linter.unusedSimpArgs false

def RR (d : List (List Int)) (ms : List (List (List Int))) : O := R1 (dR d) (mR ms)
theorem R1_ren {D M : List (List V)} (hD : flR D) (hM : flR M) (f : Nat → Nat) : O.ren f (R1 D M) = R1 D M := by
  have h : ∀ (D : List (List V)), (∀ f, D.map (V.renL f) = D) → Ce.renR f (flatC D) = flatC D := fun D hD => by
    have hL : ∀ r : List V, Ce.renL f (r.map Ce.v) = (V.renL f r).map Ce.v := fun r => by
      induction r with
      | nil => rfl
      | cons x r ih => simp [Ce.renL, Ce.ren, V.renL, ih]
    have hR : ∀ D : List (List V), Ce.renR f (flatC D) = flatC (D.map (V.renL f)) := fun D => by
      induction D with
      | nil => rfl
      | cons r D ih =>
        have ih' : Ce.renR f (D.map fun r => r.map Ce.v) = (D.map (V.renL f)).map fun r => r.map Ce.v := ih
        simp [flatC, Ce.renR, hL, ih']
    rw [hR, hD]
  simp [R1, O.ren, Ce.renR, Ce.renL, Ce.ren, h D hD.1, h M hM.1]
theorem RR_clo (d : List (List Int)) (ms : List (List (List Int))) : (RR d ms).clo := ⟨rfl, fun f => R1_ren (fl_dR d) (fl_mR ms) f, fun e => by cases e⟩
@[simp ↓ high] theorem RR_clo' (d : List (List Int)) (ms : List (List (List Int))) : (RR d ms).clo = True := eq_true (RR_clo d ms)
@[simp] theorem RR_lim (n : Nat) (d : List (List Int)) (ms : List (List (List Int))) : limO n (RR d ms) = RR d ms := by simp [RR, R1, limO, O.refs]
@[simp] theorem RR_refs (d : List (List Int)) (ms : List (List (List Int))) : (RR d ms).refs = [] := rfl
@[simp] theorem RR_ren (f : Nat → Nat) (d : List (List Int)) (ms : List (List (List Int))) : O.ren f (RR d ms) = RR d ms := R1_ren (fl_dR d) (fl_mR ms) f

section
variable {d : List (List Int)} {ms : List (List (List Int))} (hr : ROk d ms)
include hr
theorem varsRP : DC Tryz.prog hallmarkref11_Store_Vars.id [.ptr 0 1 0 0] [RR d ms] fun r H => r = V.i d.length ∧ H = [RR d ms] :=
  DC.packedR (fl_dR d) (fl_mR ms) (fl_dR d) (fl_mR ms) (Q := fun r => r = V.i d.length) varsR11_spec (by rintro r rfl; rfl)
theorem loRP (x : Int) : DC Tryz.prog hallmarkref11_Store_Lo.id [.ptr 0 1 0 0, V.i x] [RR d ms] fun r H => r = V.i ((rowR d x).headD 0) ∧ H = [RR d ms] :=
  DC.packedR (fl_dR d) (fl_mR ms) (fl_dR d) (fl_mR ms) (Q := fun r => r = V.i ((rowR d x).headD 0)) (loR_spec hr.d (fl_mR ms) x) (by rintro r rfl; rfl)
theorem hiRP (x : Int) : DC Tryz.prog hallmarkref11_Store_Hi.id [.ptr 0 1 0 0, V.i x] [RR d ms] fun r H => r = V.i ((rowR d x).getLastD 0) ∧ H = [RR d ms] :=
  DC.packedR (fl_dR d) (fl_mR ms) (fl_dR d) (fl_mR ms) (Q := fun r => r = V.i ((rowR d x).getLastD 0)) (hiR_spec hr.d (fl_mR ms) x) (by rintro r rfl; rfl)
theorem sizeRP (x : Int) : DC Tryz.prog hallmarkref11_Store_Size.id [.ptr 0 1 0 0, V.i x] [RR d ms] fun r H => r = V.i (rowR d x).length ∧ H = [RR d ms] :=
  DC.packedR (fl_dR d) (fl_mR ms) (fl_dR d) (fl_mR ms) (Q := fun r => r = V.i (rowR d x).length) (sizeR11_spec (fl_mR ms) x) (by rintro r rfl; rfl)
theorem hasRP (x v : Int) : DC Tryz.prog hallmarkref11_Store_Has.id [.ptr 0 1 0 0, V.i x, V.i v] [RR d ms] fun r H => r = .bool (decide (v ∈ rowR d x)) ∧ H = [RR d ms] :=
  DC.packedR (fl_dR d) (fl_mR ms) (fl_dR d) (fl_mR ms) (Q := fun r => r = .bool (decide (v ∈ rowR d x))) (hasR_spec hr.d (fl_mR ms) x v) (by rintro r rfl; rfl)
theorem valuesRP (x : Int) : DC Tryz.prog hallmarkref11_Store_Values.id [.ptr 0 1 0 0, V.i x] [RR d ms] fun r H => r = vInts (rowR d x) ∧ H = [RR d ms] :=
  DC.packedR (fl_dR d) (fl_mR ms) (fl_dR d) (fl_mR ms) (Q := fun r => r = vInts (rowR d x)) (valuesR_spec hr.d (fl_mR ms) x) (by rintro r rfl; rfl)
theorem openRP : DC Tryz.prog hallmarkref11_Store_Open.id [.ptr 0 1 0 0] [RR d ms] fun r H => r = vInts (openR d d.length) ∧ H = [RR d ms] :=
  DC.packedR (fl_dR d) (fl_mR ms) (fl_dR d) (fl_mR ms) (Q := fun r => r = vInts (openR d d.length)) (openR_spec hr.d (fl_mR ms)) (by rintro r rfl; rfl)
theorem cutRP (k x v : Int) : DC Tryz.prog hallmarkref11_Store_Cut.id [.ptr 0 1 0 0, .agg [V.i k, V.i x, V.i v]] [RR d ms] fun r H => r = .tup [.bool (cutR d k x v).2.1, .bool (cutR d k x v).2.2] ∧ H = [RR (cutR d k x v).1 ms] :=
  DC.packedR (fl_dR d) (fl_mR ms) (fl_dR _) (fl_mR ms) (Q := fun r => r = .tup [.bool (cutR d k x v).2.1, .bool (cutR d k x v).2.2]) (cutR_spec hr.d (fl_mR ms) k x v) (by rintro r rfl; rfl)
theorem markRP : DC Tryz.prog hallmarkref11_Store_Mark.id [.ptr 0 1 0 0] [RR d ms] fun r H => r = V.i ms.length ∧ H = [RR d (ms ++ [d])] :=
  DC.packedR (fl_dR d) (fl_mR ms) (fl_dR d) (fl_mR _) (Q := fun r => r = V.i ms.length) (markR_spec hr) (by rintro r rfl; rfl)
theorem backRP_no (j : Int) (hj : ¬ (0 ≤ j ∧ j < ms.length)) : DC Tryz.prog hallmarkref11_Store_Back.id [.ptr 0 1 0 0, V.i j] [RR d ms] fun r H => r = .bool false ∧ H = [RR d ms] :=
  DC.packedR (fl_dR d) (fl_mR ms) (fl_dR d) (fl_mR _) (Q := fun r => r = .bool false) (backR_no hr j hj) (by rintro r rfl; rfl)
theorem backRP_yes (j : Nat) (hj : j < ms.length) : DC Tryz.prog hallmarkref11_Store_Back.id [.ptr 0 1 0 0, V.i j] [RR d ms] fun r H => r = .bool true ∧ H = [RR ms[j] (ms.take j)] := by
  have ht : (mR ms).take j = mR (ms.take j) := by simp [mR, List.map_take]
  have h := DC.closedR (l := j) (fl_dR d) (fl_mR ms) (fl_dR ms[j]) (fl_mR ms) (by rw [ht]; exact fl_mR _) (by simp; omega) (Q := fun r => r = .bool true) (P := Tryz.prog) (f := hallmarkref11_Store_Back.id) (ys := [V.i j])
    (DC.mono (backR_yes hr j hj) fun r H ⟨h1, rf, q, q0, q2, g0, g1, g2⟩ => ⟨h1, rf, q, q0, q2, by simpa using g0, g1, g2⟩) (by rintro r rfl; rfl)
  rw [ht] at h
  exact h

theorem copyRP : DC Tryz.prog hallmarkref11_Store_Copy.id [.ptr 0 1 0 0] [RR d ms] (fun r H => r = .ptr 1 1 0 0 ∧ H = [RR d ms, RR d ms]) := by
  refine DC.picks (Q := fun r H => r = .ptr 3 1 0 0 ∧ H[0]? = some (RR d ms) ∧ H[3]? = some (RR d ms)) ?_ ?_
  rotate_left
  · rintro r H ⟨rfl, h0, h1⟩
    refine ⟨[0, 3], ⟨by simp, fun i hi => ?_, fun i hi => ?_, fun i hi k hk => ?_⟩, by simp, by simp [V.ids], rfl, ?_⟩
    · simp only [List.mem_cons, List.not_mem_nil, or_false] at hi
      rcases hi with rfl | rfl
      · exact lt_of_get h0
      · exact lt_of_get h1
    · simp only [List.mem_cons, List.not_mem_nil, or_false] at hi
      rcases hi with rfl | rfl
      · rw [getD_some h0]; simp [RR, R1]
      · rw [getD_some h1]; simp [RR, R1]
    · simp only [List.mem_cons, List.not_mem_nil, or_false] at hi
      rcases hi with rfl | rfl
      · rw [getD_some h0] at hk; cases hk
      · rw [getD_some h1] at hk; cases hk
    · simp only [sub, List.map_cons, List.map_nil, getD_some h0, getD_some h1, RR_ren]
  refine DC.pre (open_R (fl_dR d) (fl_mR ms)) (DC.post' (copyR_open hr) ?_)
  rintro x H1 ⟨rfl, rf, E, rfl⟩ w β F vs hk hrv
  obtain ⟨β1, H2, a1, g1, l1, s1⟩ := close_R (p := 0) (a := 1) (b := 2) hk rfl rfl rfl (fl_dR d) (fl_mR ms) (by simp) (by simp) (by simp) (lo_arg (i := 1) hrv rfl rfl)
  have h3 := s1 3 (by simp) (by simp) (by simp)
  have h4 := s1 4 (by simp) (by simp) (by simp)
  have h5 := s1 5 (by simp) (by simp) (by simp)
  obtain ⟨β2, H3, a2, g2, l2, s2⟩ := close_R (p := 3) (a := 4) (b := 5) (D := dR d) (M := mR ms) (rf := rf) a1.hok (by rw [h3]; simp [RS]) (by rw [h4]; rfl) (by rw [h5]; rfl) (fl_dR d) (fl_mR ms) (by simp) (by simp) (by simp) (lo_arg (i := 0) (hrv.mono a1.le) rfl (by unfold hdOf; rw [h3]; rfl))
  exact ⟨β2, H3, a1.trans a2, rfl, by rw [s2 0 (by simp) (by simp) (by simp)]; exact g1, g2⟩
end
end Go.Abs.G

namespace Go.Abs.G
open Go.Proofs
set_option linter.unusedVariables false
set_option linter.unusedSimpArgs false

def RS2 (D M D' M' : List (List V)) : Heap := [.mem false [2, 3] [[.own 2 1 0 D.length D.length, .own 3 1 0 M.length M.length]], .mem false [4, 5] [[.own 4 1 0 D'.length D'.length, .own 5 1 0 M'.length M'.length]], .mem false [] D, .mem false [] M, .mem false [] D', .mem false [] M']

theorem take_eq_of {α : Type} {a b : List α} {i : Nat} (h : a.take i = b.take i) (ha : i < a.length) (hb : i < b.length) (he : a[i] = b[i]) : a.take (i + 1) = b.take (i + 1) := by
  rw [List.take_succ_eq_append_getElem ha, List.take_succ_eq_append_getElem hb, h, he]

theorem sameR_body {d e : List (List Int)} {M M' : List (List V)} (hd : DOk d) (he : DOk e) : DC Tryz.prog hallmarkref11_Same.id [.ptr 0 1 0 0, .ptr 1 1 0 0] (RS2 (dR d) M (dR e) M') (fun r H => r = .bool (decide (d = e)) ∧ H = RS2 (dR d) M (dR e) M') := by
  have hn := hd.n
  obtain ⟨HH, hHH⟩ : ∃ HH : Unit → Heap, HH () = RS2 (dR d) M (dR e) M' := ⟨fun _ => _, rfl⟩
  have hT : ((HH ()).take 6).map (limO 6) = HH () := by rw [hHH]; simp [RS2, limO, O.refs]
  refine DC.of hallmarkref11_Same.ok (by simp) ?_
  unfold hallmarkref11_Same.ir
  rw [← hHH]
  refine vc_cut (At [(0, .ptr 0 1 0 0), (1, .ptr 1 1 0 0)] (HH ())) (by simp -dsimp [At]) ?_
  try clear h
  rintro ⟨sl, hp, bs⟩ ⟨rfl, h⟩
  simp only [sls_cons, sls_one, sls_nil] at h
  refine vc_cut (fun st => d.length = e.length ∧ At [(0, .ptr 0 1 0 0), (1, .ptr 1 1 0 0)] (HH ()) st) ?_ ?_
  · have ei : ((d.length : Int) = e.length) ↔ d.length = e.length := by omega
    by_cases a : d.length = e.length
    · simp -dsimp [h, At, hHH, RS2, a, ei]
    · have hne : ¬ d = e := fun h => a (by rw [h])
      simp -dsimp [h, hHH, RS2, a, ei, hne, hallmarkref11_Same.rs]
  try clear h
  rintro ⟨sl, hp, bs⟩ ⟨hl, rfl, h⟩
  simp only [sls_cons, sls_one, sls_nil] at h
  refine vc_cut (fun st => d = e ∧ At [] (HH ()) st) ?_ ?_
  · refine vc_cut (At [(0, .ptr 0 1 0 0), (1, .ptr 1 1 0 0), (5, V.i 0)] (HH ())) (by simp -dsimp [h, At]) ?_
    try clear h
    rintro ⟨sl, hp, bs⟩ ⟨rfl, h⟩
    simp only [sls_cons, sls_one, sls_nil] at h
    refine vc_block_of (vc_upto 6 (by rw [hHH]; simp [RS2]) d.length (fun i st => d.take i = e.take i ∧ At [(0, .ptr 0 1 0 0), (1, .ptr 1 1 0 0), (5, V.i i)] (HH ()) st) ⟨rfl, rfl, by simpa using h⟩ ?_)
    clear h
    rintro i ⟨sl, hp, bs⟩ hi ⟨hx, rfl, h⟩
    simp only [sls_cons, sls_one] at h
    unfold hallmarkref11_Same.b0
    by_cases hil : i < d.length
    · have hw : IntKind.i64.wrap ((i : Int) + 1) = ((i + 1 : Nat) : Int) := by rw [wrap64] <;> omega
      have hile : i < e.length := by omega
      refine vc_cut (At [(0, .ptr 0 1 0 0), (1, .ptr 1 1 0 0), (5, V.i i)] (HH ())) (by simp -dsimp [h, At, hHH, RS2, hil]) ?_
      try clear h
      rintro ⟨sl, hp, bs⟩ ⟨rfl, h⟩
      simp only [sls_cons, sls_one, sls_nil] at h
      obtain ⟨a, ha⟩ : ∃ a, a = d[i] := ⟨_, rfl⟩
      obtain ⟨b, hb⟩ : ∃ b, b = e[i] := ⟨_, rfl⟩
      have hal := (hd.l _ (List.getElem_mem hil)).2
      rw [← ha] at hal
      have hno : a ≠ b → decide (d = e) = false := fun hne => by
        rw [decide_eq_false_iff_not]; intro h; subst h; exact hne (ha.trans hb.symm)
      have da : ∀ hh, (dR d)[i]'hh = [vInts a] := fun _ => by simp [dR, ha]
      have db : ∀ hh, (dR e)[i]'hh = [vInts b] := fun _ => by simp [dR, hb]
      refine vc_cut (fun st => a = b ∧ At [(0, .ptr 0 1 0 0), (1, .ptr 1 1 0 0), (5, V.i i)] (HH ()) st) ?_ ?_
      · refine vc_block_of ?_
        refine vc_cut (fun st => a.length = b.length ∧ At [(0, .ptr 0 1 0 0), (1, .ptr 1 1 0 0), (5, V.i i)] (HH ()) st) ?_ ?_
        · have ei : ((a.length : Int) = b.length) ↔ a.length = b.length := by omega
          by_cases q : a.length = b.length
          · simp -dsimp [h, At, hHH, RS2, hil, hile, da, db, vInts, q, ei]
          · simp -dsimp [h, hHH, RS2, hil, hile, da, db, vInts, q, ei, hno (fun h => q (by rw [h])), hallmarkref11_Same.rs]
        try clear h
        rintro ⟨sl, hp, bs⟩ ⟨hab, rfl, h⟩
        simp only [sls_cons, sls_one, sls_nil] at h
        refine vc_cut (At [(0, .ptr 0 1 0 0), (1, .ptr 1 1 0 0), (5, V.i i), (6, V.i 0)] (HH ())) (by simp -dsimp [h, At]) ?_
        try clear h
        rintro ⟨sl, hp, bs⟩ ⟨rfl, h⟩
        simp only [sls_cons, sls_one, sls_nil] at h
        refine vc_block_of (vc_upto 6 (by rw [hHH]; simp [RS2]) a.length (fun k st => a.take k = b.take k ∧ At [(0, .ptr 0 1 0 0), (1, .ptr 1 1 0 0), (5, V.i i), (6, V.i k)] (HH ()) st) ⟨rfl, rfl, by simpa using h⟩ ?_)
        clear h
        rintro k ⟨sl, hp, bs⟩ hk ⟨hy, rfl, h⟩
        simp only [sls_cons, sls_one] at h
        unfold hallmarkref11_Same.b1
        by_cases hkl : k < a.length
        · have hw2 : IntKind.i64.wrap ((k : Int) + 1) = ((k + 1 : Nat) : Int) := by rw [wrap64] <;> omega
          have hkb : k < b.length := by omega
          refine vc_cut (At [(0, .ptr 0 1 0 0), (1, .ptr 1 1 0 0), (5, V.i i), (6, V.i k)] (HH ())) (by simp -dsimp [h, At, hHH, RS2, hil, da, vInts, hkl]) ?_
          try clear h
          rintro ⟨sl, hp, bs⟩ ⟨rfl, h⟩
          simp only [sls_cons, sls_one, sls_nil] at h
          refine vc_cut (fun st => a[k] = b[k] ∧ At [(0, .ptr 0 1 0 0), (1, .ptr 1 1 0 0), (5, V.i i), (6, V.i k)] (HH ()) st) ?_ ?_
          · refine vc_block_of ?_
            by_cases q : a[k] = b[k]
            · simp -dsimp [h, At, hHH, RS2, hil, hile, da, db, vInts, hkl, hkb, q]
            · simp -dsimp [h, hHH, RS2, hil, hile, da, db, vInts, hkl, hkb, q, hno (fun h => q (by subst h; rfl)), hallmarkref11_Same.rs]
          try clear h
          rintro ⟨sl, hp, bs⟩ ⟨hq, rfl, h⟩
          simp only [sls_cons, sls_one, sls_nil] at h
          have hy2 := take_eq_of hy hkl hkb hq
          rw [List.map_take] at hT
          simp -dsimp [h, At, hw2, hkl, hy2, hT]
        · have hk' : k = a.length := by omega
          have hab2 : a = b := by
            rw [hk', List.take_length, hab, List.take_length] at hy; exact hy
          subst hk'
          simp -dsimp [h, At, hHH, RS2, hil, da, vInts, hab2]
      try clear h
      rintro ⟨sl, hp, bs⟩ ⟨hab, rfl, h⟩
      simp only [sls_cons, sls_one, sls_nil] at h
      have hx2 := take_eq_of hx hil hile (by rw [← ha, ← hb]; exact hab)
      rw [List.map_take] at hT
      simp -dsimp [h, At, hw, hil, hx2, hT]
    · have hil' : i = d.length := by omega
      have hde : d = e := by
        rw [hil', List.take_length, hl, List.take_length] at hx; exact hx
      subst hil'
      simp -dsimp [h, At, hHH, RS2, hde]
  try clear h
  rintro ⟨sl, hp, bs⟩ ⟨hde, rfl, h⟩
  simp -dsimp [hde, hallmarkref11_Same.rs]
end Go.Abs.G

namespace Go.Abs.G
open Go.Proofs
set_option linter.unusedVariables false
set_option linter.unusedSimpArgs false

theorem open_R2 {xs : List V} {D M D' M' : List (List V)} (hD : flR D) (hM : flR M) (hD' : flR D') (hM' : flR M') : Step xs [R1 D M, R1 D' M'] (RS2 D M D' M') := fun w β F vs hk hr => by
  obtain ⟨β1, a1⟩ := adv_unpack (id := 0) (i := 0) (j := 0) hk rfl rfl rfl
  replace a1 : Adv F w [R1 D M, R1 D' M'] β w [.tree [2] [[.v (.own 2 1 0 (flatC D).length (flatC D).length), .n 1 (flatC M)]], R1 D' M', .tree [] (flatC D)] β1 := a1
  rw [flatC_length] at a1
  obtain ⟨β2, a2⟩ := adv_unpack (id := 0) (i := 0) (j := 1) a1.hok rfl rfl rfl
  replace a2 : Adv F w [.tree [2] [[.v (.own 2 1 0 D.length D.length), .n 1 (flatC M)]], R1 D' M', .tree [] (flatC D)] β1 w [.tree [3, 2] [[.v (.own 2 1 0 D.length D.length), .v (.own 3 1 0 (flatC M).length (flatC M).length)]], R1 D' M', .tree [] (flatC D), .tree [2] (flatC M)] β2 := a2
  rw [flatC_length] at a2
  obtain ⟨β3, a3⟩ := adv_unpack (id := 1) (i := 0) (j := 0) a2.hok rfl rfl rfl
  replace a3 : Adv F w [.tree [3, 2] [[.v (.own 2 1 0 D.length D.length), .v (.own 3 1 0 M.length M.length)]], R1 D' M', .tree [] (flatC D), .tree [2] (flatC M)] β2 w [.tree [3, 2] [[.v (.own 2 1 0 D.length D.length), .v (.own 3 1 0 M.length M.length)]], .tree [4] [[.v (.own 4 1 0 (flatC D').length (flatC D').length), .n 1 (flatC M')]], .tree [] (flatC D), .tree [2] (flatC M), .tree [] (flatC D')] β3 := a3
  rw [flatC_length] at a3
  obtain ⟨β4, a4⟩ := adv_unpack (id := 1) (i := 0) (j := 1) a3.hok rfl rfl rfl
  replace a4 : Adv F w [.tree [3, 2] [[.v (.own 2 1 0 D.length D.length), .v (.own 3 1 0 M.length M.length)]], .tree [4] [[.v (.own 4 1 0 D'.length D'.length), .n 1 (flatC M')]], .tree [] (flatC D), .tree [2] (flatC M), .tree [] (flatC D')] β3 w [.tree [3, 2] [[.v (.own 2 1 0 D.length D.length), .v (.own 3 1 0 M.length M.length)]], .tree [5, 4] [[.v (.own 4 1 0 D'.length D'.length), .v (.own 5 1 0 (flatC M').length (flatC M').length)]], .tree [] (flatC D), .tree [2] (flatC M), .tree [] (flatC D'), .tree [4] (flatC M')] β4 := a4
  rw [flatC_length] at a4
  obtain ⟨β5, a5⟩ := adv_refsT (id := 3) (refs' := []) a4.hok rfl (by rw [hM.2]; simp)
  obtain ⟨β6, a6⟩ := adv_refsT (id := 5) (refs' := []) a5.hok rfl (by rw [hM'.2]; simp)
  obtain ⟨β7, a7⟩ := adv_toMem (id := 3) (refs := []) (rows := M) a6.hok rfl
  obtain ⟨β8, a8⟩ := adv_toMem (id := 5) (refs := []) (rows := M') a7.hok rfl
  obtain ⟨β9, a9⟩ := adv_toMem (id := 2) (refs := []) (rows := D) a8.hok rfl
  obtain ⟨β10, a10⟩ := adv_toMem (id := 4) (refs := []) (rows := D') a9.hok rfl
  obtain ⟨β11, a11⟩ := adv_refsT (id := 0) (refs' := [2, 3]) a10.hok rfl (by simp [Ce.idsR, Ce.idsL, Ce.ids, V.ids])
  obtain ⟨β12, a12⟩ := adv_toMem (id := 0) (refs := [2, 3]) (rows := [[.own 2 1 0 D.length D.length, .own 3 1 0 M.length M.length]]) a11.hok rfl
  obtain ⟨β13, a13⟩ := adv_refsT (id := 1) (refs' := [4, 5]) a12.hok rfl (by simp [Ce.idsR, Ce.idsL, Ce.ids, V.ids])
  obtain ⟨β14, a14⟩ := adv_toMem (id := 1) (refs := [4, 5]) (rows := [[.own 4 1 0 D'.length D'.length, .own 5 1 0 M'.length M'.length]]) a13.hok rfl
  exact ⟨β14, a1.trans (a2.trans (a3.trans (a4.trans (a5.trans (a6.trans (a7.trans (a8.trans (a9.trans (a10.trans (a11.trans (a12.trans (a13.trans a14))))))))))))⟩

theorem sameRP {d e : List (List Int)} {ms ns : List (List (List Int))} (hd : ROk d ms) (he : ROk e ns) :
    DC Tryz.prog hallmarkref11_Same.id [.ptr 0 1 0 0, .ptr 1 1 0 0] [RR d ms, RR e ns] (fun r H => r = .bool (decide (d = e)) ∧ H = [RR d ms, RR e ns]) := by
  refine DC.trim (Q := fun r H => r = .bool (decide (d = e)) ∧ H[0]? = some (RR d ms) ∧ H[1]? = some (RR e ns)) ?_ ?_
  rotate_left
  · rintro r H ⟨rfl, h0, h1⟩
    refine ⟨2, by simp, by simp [V.ids], rfl, ?_⟩
    match H, h0, h1 with
    | a :: b :: E, h0, h1 => simp at h0 h1; subst h0 h1; simp [-limO]
  refine DC.pre (open_R2 (fl_dR d) (fl_mR ms) (fl_dR e) (fl_mR ns)) (DC.post' (sameR_body hd.d he.d) ?_)
  rintro x H1 ⟨rfl, rfl⟩ w β F vs hk hrv
  obtain ⟨β1, H2, a1, g1, l1, s1⟩ := close_R (p := 0) (a := 2) (b := 3) (D := dR d) (M := mR ms) hk rfl rfl rfl (fl_dR d) (fl_mR ms) (by simp) (by simp) (by simp) (lo_arg (i := 1) hrv rfl rfl)
  have h3 := s1 1 (by simp) (by simp) (by simp)
  have h4 := s1 4 (by simp) (by simp) (by simp)
  have h5 := s1 5 (by simp) (by simp) (by simp)
  obtain ⟨β2, H3, a2, g2, l2, s2⟩ := close_R (p := 1) (a := 4) (b := 5) (D := dR e) (M := mR ns) (rf := [4, 5]) a1.hok (by rw [h3]; rfl) (by rw [h4]; rfl) (by rw [h5]; rfl) (fl_dR e) (fl_mR ns) (by simp) (by simp) (by simp) (lo_arg (i := 2) (hrv.mono a1.le) rfl (by unfold hdOf; rw [h3]; rfl))
  exact ⟨β2, H3, a1.trans a2, rfl, by rw [s2 0 (by simp) (by simp) (by simp)]; exact g1, g2⟩
end Go.Abs.G

namespace Go.Abs.G
open Go.Proofs
set_option linter.unusedVariables false
set_option linter.unusedSimpArgs false

theorem letterR_spec (c : Nat) (hc : c < 256) : Pf Tryz.prog hallmarkref4_letter.id [.a (.int .u8 c)] (.bool (letterB c)) := by
  refine DC.of hallmarkref4_letter.ok (by simp) ?_
  unfold hallmarkref4_letter.ir
  unfold letterB
  by_cases h1 : 97 ≤ c <;> by_cases h2 : c ≤ 122 <;> by_cases h3 : 65 ≤ c <;> by_cases h4 : c ≤ 90 <;> by_cases h5 : c = 95 <;>
    first
    | omega
    | (have e1 : ((97 : Int) ≤ c) ↔ 97 ≤ c := by omega
       have e2 : ((c : Int) ≤ 122) ↔ c ≤ 122 := by omega
       have e3 : ((65 : Int) ≤ c) ↔ 65 ≤ c := by omega
       have e4 : ((c : Int) ≤ 90) ↔ c ≤ 90 := by omega
       have e5 : ((c : Int) = 95) ↔ c = 95 := by omega
       simp -dsimp [hallmarkref4_letter.rs, h1, h2, h3, h4, h5, e1, e2, e3, e4, e5])

theorem sizeR_spec (n most : Int) (h0 : 0 ≤ most) (h1 : most ≤ 9223372036854775807) : Pf Tryz.prog hallmarkref4_size.id [V.i n, V.i most] (.bool (withinB n most)) := by
  refine DC.of hallmarkref4_size.ok (by simp) ?_
  have hw : IntKind.i64.wrap (-most) = -most := wrap64 (by omega) (by omega)
  unfold hallmarkref4_size.ir withinB
  by_cases h : -most ≤ n <;> by_cases h2 : n ≤ most <;> simp -dsimp [hallmarkref4_size.rs, hw, h, h2]

theorem numberR_spec (n : Int) : Pf Tryz.prog hallmarkref4_Number.id [V.i n] (.bool (withinB n 1000000000)) := by
  refine DC.of hallmarkref4_Number.ok (by simp) ?_
  unfold hallmarkref4_Number.ir
  simp -dsimp
  refine gcall (sizeR_spec n 1000000000 (by decide) (by decide)) (by simp -dsimp) (by simp -dsimp) ?_
  simp -dsimp [hallmarkref4_Number.rs]

theorem coefR_spec (n : Int) : Pf Tryz.prog hallmarkref4_Coef.id [V.i n] (.bool (!(decide (n = 0) || !withinB n 1000000))) := by
  refine DC.of hallmarkref4_Coef.ok (by simp) ?_
  unfold hallmarkref4_Coef.ir
  by_cases h : n = 0
  · simp -dsimp [h, hallmarkref4_Coef.rs]
  · simp -dsimp [h]
    refine gcall (sizeR_spec n 1000000 (by decide) (by decide)) (by simp -dsimp) (by simp -dsimp) ?_
    simp -dsimp [hallmarkref4_Coef.rs, h]

def boundsR (lo hi : Int) : Bool := withinB lo 1000000000 && withinB hi 1000000000 && decide (lo ≤ hi) && decide (hi - lo < 64)
theorem boundsR_spec (lo hi : Int) (h1 : I64 lo) (h2 : I64 hi) : Pf Tryz.prog hallmarkref4_Bounds.id [V.i lo, V.i hi] (.bool (boundsR lo hi)) := by
  refine DC.of hallmarkref4_Bounds.ok (by simp) ?_
  unfold hallmarkref4_Bounds.ir boundsR
  simp -dsimp
  refine gcall (sizeR_spec lo 1000000000 (by decide) (by decide)) (by simp -dsimp) (by simp -dsimp) ?_
  cases a : withinB lo 1000000000
  · simp -dsimp [a, hallmarkref4_Bounds.rs]
  · simp -dsimp [a]
    refine gcall (sizeR_spec hi 1000000000 (by decide) (by decide)) (by simp -dsimp) (by simp -dsimp) ?_
    cases b : withinB hi 1000000000
    · simp -dsimp [b, hallmarkref4_Bounds.rs]
    · simp [withinB] at a b
      by_cases h : lo ≤ hi
      · have hw : IntKind.i64.wrap (hi - lo) = hi - lo := wrap64 (by omega) (by omega)
        simp -dsimp [h, hw, hallmarkref4_Bounds.rs]
      · simp -dsimp [h, hallmarkref4_Bounds.rs]

theorem manyR_spec (n : Nat) : Pf Tryz.prog hallmarkref4_many.id [V.i n] (.bool (manyB n)) := by
  refine DC.of hallmarkref4_many.ok (by simp) ?_
  unfold hallmarkref4_many.ir manyB
  by_cases h : n < 1
  · have h' : (n : Int) < 1 := by omega
    simp -dsimp [h, h', hallmarkref4_many.rs]
  · have h' : ¬ (n : Int) < 1 := by omega
    by_cases h2 : 64 < n
    · have h2' : (64 : Int) < n := by omega
      simp -dsimp [h, h', h2, h2', hallmarkref4_many.rs]
    · have h2' : ¬ (64 : Int) < n := by omega
      simp -dsimp [h, h', h2, h2', hallmarkref4_many.rs]

theorem listsR_spec (k : Int) : Pf Tryz.prog hallmarkref4_lists.id [V.i k] (.bool (listsB k)) := by
  refine DC.of hallmarkref4_lists.ok (by simp) ?_
  unfold hallmarkref4_lists.ir listsB
  by_cases h3 : k = 3
  · simp -dsimp [h3, hallmarkref4_lists.rs]
  by_cases h5 : k = 5
  · simp -dsimp [h5, hallmarkref4_lists.rs]
  by_cases h6 : k = 6
  · simp -dsimp [h6, hallmarkref4_lists.rs]
  by_cases h8 : k = 8
  · simp -dsimp [h8, hallmarkref4_lists.rs]
  simp -dsimp [h3, h5, h6, h8, hallmarkref4_lists.rs, Bool.beq_eq_decide_eq]

theorem placeR_spec (x n : Int) : Pf Tryz.prog hallmarkref4_place.id [V.i x, V.i n] (.bool (placeR x n)) := by
  refine DC.of hallmarkref4_place.ok (by simp) ?_
  unfold hallmarkref4_place.ir placeR
  by_cases h : 0 ≤ x <;> simp -dsimp [h, hallmarkref4_place.rs]
end Go.Abs.G

namespace Go.Abs.G
open Go.Proofs
set_option linter.unusedVariables false
set_option linter.unusedSimpArgs false

def foS (c : Con) : Bool := decide (c.kind = 1) || decide (c.kind = 7)
def fo1 (c : Con) : Bool := decide (c.kind ≠ 1) && decide (c.kind ≠ 9) && decide (c.op ≠ 0)
def fo2 (c : Con) : Bool := fo1 c || (!foS c && decide (0 < c.terms.length))
def fo3 (c : Con) : Bool := fo2 c || (!foS c && decide (c.kind ≠ 2) && decide (c.kind ≠ 9) && decide (c.k ≠ 0))
def fo4 (c : Con) : Bool := fo3 c || (decide (c.kind ≠ 2) && decide (c.kind ≠ 4) && decide (c.kind ≠ 7) && decide (c.x ≠ 0))
def fo5 (c : Con) : Bool := fo4 c || ((foS c || (listsB c.kind && decide (c.kind ≠ 5) && decide (c.kind ≠ 6))) && decide (c.y ≠ 0))
def fo6 (c : Con) : Bool := fo5 c || (!listsB c.kind && decide (0 < c.xs.length))
def fo7 (c : Con) : Bool := fo6 c || (decide (c.kind ≠ 4) && decide (0 < c.table.length))
def fo0 (c : Con) : Bool := (decide (c.kind ≠ 9) && decide (c.v ≠ 0)) || (decide (c.kind ≠ 8) && decide (0 < c.rows.length))
theorem foreign_fo (c : Con) : foreignB c = (fo0 c || fo7 c) := by
  unfold foreignB fo7 fo6 fo5 fo4 fo3 fo2 fo1 fo0 foS
  split
  · rename_i h; rw [h]; rfl
  · rename_i h; rw [Bool.not_eq_true] at h; rw [h]; rfl

theorem posN (n : Nat) : ((0 : Int) < n) ↔ 0 < n := by omega

theorem foreignR_spec (c : Con) : Pf Tryz.prog hallmarkref4_foreign.id [.agg c.cells] (.bool (foreignB c)) := by
  refine DC.of hallmarkref4_foreign.ok (by simp) ?_
  unfold hallmarkref4_foreign.ir
  refine vc_cut (At [(1, .ptr 0 1 0 0)] [.mem false [] [c.cells]]) (by simp -dsimp [At, Con.cells, vTerms, vInts, vIntss]) ?_
  try clear h
  rintro ⟨sl, hp, bs⟩ ⟨rfl, h⟩
  simp only [sls_cons, sls_one, sls_nil] at h
  refine vc_cut (At [(1, .ptr 0 1 0 0), (3, V.i c.kind)] [.mem false [] [c.cells]]) (by simp -dsimp [h, At, Con.cells, vTerms, vInts, vIntss]) ?_
  try clear h
  rintro ⟨sl, hp, bs⟩ ⟨rfl, h⟩
  simp only [sls_cons, sls_one, sls_nil] at h
  refine vc_cut (At [(1, .ptr 0 1 0 0), (3, V.i c.kind), (4, .bool (foS c))] [.mem false [] [c.cells]]) ?_ ?_
  · by_cases k : c.kind = 1
    · simp -dsimp [h, At, k, foS]
    · simp -dsimp [h, At, k, foS, Bool.beq_eq_decide_eq]
  try clear h
  rintro ⟨sl, hp, bs⟩ ⟨rfl, h⟩
  simp only [sls_cons, sls_one, sls_nil] at h
  refine vc_cut (At [(1, .ptr 0 1 0 0), (3, V.i c.kind), (4, .bool (foS c)), (5, .bool (listsB c.kind))] [.mem false [] [c.cells]]) ?_ ?_
  · simp -dsimp [h]
    refine gcall (listsR_spec c.kind) (by simp -dsimp [h]) (by simp -dsimp [h]) ?_
    simp -dsimp [h, At]
  try clear h
  rintro ⟨sl, hp, bs⟩ ⟨rfl, h⟩
  simp only [sls_cons, sls_one, sls_nil] at h
  obtain ⟨L, hL⟩ : ∃ L, L = listsB c.kind := ⟨_, rfl⟩
  obtain ⟨S, hS⟩ : ∃ S, S = foS c := ⟨_, rfl⟩
  rw [← hL, ← hS] at h
  have l0 := posN
  refine vc_cut (fun st => fo0 c = false ∧ At [(1, .ptr 0 1 0 0), (3, V.i c.kind), (4, .bool S), (5, .bool L)] [.mem false [] [c.cells]] st) ?_ ?_
  · by_cases k9 : c.kind = 9
    · by_cases r : 0 < c.rows.length
      · simp -dsimp [h, At, Con.cells, vTerms, vInts, vIntss, k9, r, l0, fo0, foreign_fo, hallmarkref4_foreign.rs]
      · simp -dsimp [h, At, Con.cells, vTerms, vInts, vIntss, k9, r, l0, fo0]
    · by_cases v : c.v = 0
      · by_cases k8 : c.kind = 8
        · simp -dsimp [h, At, Con.cells, vTerms, vInts, vIntss, k8, v, l0, fo0]
        · by_cases r : 0 < c.rows.length
          · simp -dsimp [h, At, Con.cells, vTerms, vInts, vIntss, k9, k8, v, r, l0, fo0, foreign_fo, hallmarkref4_foreign.rs]
          · simp -dsimp [h, At, Con.cells, vTerms, vInts, vIntss, k9, k8, v, r, l0, fo0]
      · simp -dsimp [h, At, Con.cells, vTerms, vInts, vIntss, k9, v, l0, fo0, foreign_fo, hallmarkref4_foreign.rs]
  try clear h
  rintro ⟨sl, hp, bs⟩ ⟨f0, rfl, h⟩
  simp only [sls_cons, sls_one, sls_nil] at h
  have hF : foreignB c = fo7 c := by rw [foreign_fo, f0]; rfl
  rw [hF]
  refine vc_cut (At [(2, .bool (fo7 c))] [.mem false [] [c.cells]]) ?_ ?_
  rotate_left
  · try clear h
    rintro ⟨sl, hp, bs⟩ ⟨rfl, h⟩
    simp only [sls_cons, sls_one, sls_nil] at h
    simp -dsimp [h, hallmarkref4_foreign.rs]
  refine vc_reg_of (vcIts_cut 12 (At [(1, .ptr 0 1 0 0), (3, V.i c.kind), (4, .bool S), (5, .bool L), (44, .bool (fo1 c))] [.mem false [] [c.cells]]) ?_ ?_)
  · by_cases k : c.kind = 1
    · simp -dsimp [h, At, k, fo1]
    · by_cases k9 : c.kind = 9
      · simp -dsimp [h, At, k9, fo1]
      · by_cases o : c.op = 0
        · simp -dsimp [h, At, k, k9, fo1, o, Con.cells, vTerms, vInts, vIntss]
        · simp -dsimp [h, At, k, k9, fo1, o, Con.cells, vTerms, vInts, vIntss]
  try clear h
  rintro ⟨sl, hp, bs⟩ ⟨rfl, h⟩
  simp only [sls_cons, sls_one, sls_nil] at h
  refine vcIts_cut 10 (At [(1, .ptr 0 1 0 0), (3, V.i c.kind), (4, .bool S), (5, .bool L), (54, .bool (fo2 c))] [.mem false [] [c.cells]]) ?_ ?_
  · cases e : fo1 c
    · cases S
      · by_cases t : 0 < c.terms.length
        · simp -dsimp [h, At, e, fo2, ← hS, t, l0, Con.cells, vTerms, vInts, vIntss]
        · simp -dsimp [h, At, e, fo2, ← hS, t, l0, Con.cells, vTerms, vInts, vIntss]
      · simp -dsimp [h, At, e, fo2, ← hS]
    · simp -dsimp [h, At, e, fo2]
  try clear h
  rintro ⟨sl, hp, bs⟩ ⟨rfl, h⟩
  simp only [sls_cons, sls_one, sls_nil] at h
  refine vcIts_cut 17 (At [(1, .ptr 0 1 0 0), (3, V.i c.kind), (4, .bool S), (5, .bool L), (71, .bool (fo3 c))] [.mem false [] [c.cells]]) ?_ ?_
  · cases e : fo2 c
    · cases S
      · by_cases k2 : c.kind = 2
        · simp -dsimp [h, At, e, fo3, ← hS, k2]
        · by_cases k9 : c.kind = 9
          · simp -dsimp [h, At, e, fo3, ← hS, k9]
          · by_cases t : c.k = 0
            · simp -dsimp [h, At, e, fo3, ← hS, k2, k9, t, Con.cells, vTerms, vInts, vIntss]
            · simp -dsimp [h, At, e, fo3, ← hS, k2, k9, t, Con.cells, vTerms, vInts, vIntss]
      · simp -dsimp [h, At, e, fo3, ← hS]
    · simp -dsimp [h, At, e, fo3]
  try clear h
  rintro ⟨sl, hp, bs⟩ ⟨rfl, h⟩
  simp only [sls_cons, sls_one, sls_nil] at h
  refine vcIts_cut 17 (At [(1, .ptr 0 1 0 0), (3, V.i c.kind), (4, .bool S), (5, .bool L), (88, .bool (fo4 c))] [.mem false [] [c.cells]]) ?_ ?_
  · cases e : fo3 c
    · by_cases k2 : c.kind = 2
      · simp -dsimp [h, At, e, fo4, k2]
      · by_cases k4 : c.kind = 4
        · simp -dsimp [h, At, e, fo4, k4]
        · by_cases k7 : c.kind = 7
          · simp -dsimp [h, At, e, fo4, k7]
          · by_cases t : c.x = 0
            · simp -dsimp [h, At, e, fo4, k2, k4, k7, t, Con.cells, vTerms, vInts, vIntss]
            · simp -dsimp [h, At, e, fo4, k2, k4, k7, t, Con.cells, vTerms, vInts, vIntss]
    · simp -dsimp [h, At, e, fo4]
  try clear h
  rintro ⟨sl, hp, bs⟩ ⟨rfl, h⟩
  simp only [sls_cons, sls_one, sls_nil] at h
  refine vcIts_cut 19 (At [(1, .ptr 0 1 0 0), (3, V.i c.kind), (4, .bool S), (5, .bool L), (107, .bool (fo5 c))] [.mem false [] [c.cells]]) ?_ ?_
  · cases e : fo4 c
    · by_cases t : c.y = 0
      · cases S
        · cases L
          · simp -dsimp [h, At, e, fo5, ← hS, ← hL, t, Con.cells, vTerms, vInts, vIntss]
          · by_cases k5 : c.kind = 5
            · simp -dsimp [h, At, e, fo5, ← hS, ← hL, t, k5, Con.cells, vTerms, vInts, vIntss]
            · by_cases k6 : c.kind = 6
              · simp -dsimp [h, At, e, fo5, ← hS, ← hL, t, k6, Con.cells, vTerms, vInts, vIntss]
              · simp -dsimp [h, At, e, fo5, ← hS, ← hL, t, k5, k6, Con.cells, vTerms, vInts, vIntss]
        · simp -dsimp [h, At, e, fo5, ← hS, ← hL, t, Con.cells, vTerms, vInts, vIntss]
      · cases S
        · cases L
          · simp -dsimp [h, At, e, fo5, ← hS, ← hL, t, Con.cells, vTerms, vInts, vIntss]
          · by_cases k5 : c.kind = 5
            · have hL' : listsB 5 = true := by rw [← k5, ← hL]
              simp -dsimp [h, At, e, fo5, ← hS, hL', t, k5, Con.cells, vTerms, vInts, vIntss]
            · by_cases k6 : c.kind = 6
              · have hL' : listsB 6 = true := by rw [← k6, ← hL]
                simp -dsimp [h, At, e, fo5, ← hS, hL', t, k6, Con.cells, vTerms, vInts, vIntss]
              · simp -dsimp [h, At, e, fo5, ← hS, ← hL, t, k5, k6, Con.cells, vTerms, vInts, vIntss]
        · simp -dsimp [h, At, e, fo5, ← hS, ← hL, t, Con.cells, vTerms, vInts, vIntss]
    · simp -dsimp [h, At, e, fo5]
  try clear h
  rintro ⟨sl, hp, bs⟩ ⟨rfl, h⟩
  simp only [sls_cons, sls_one, sls_nil] at h
  refine vcIts_cut 10 (At [(1, .ptr 0 1 0 0), (3, V.i c.kind), (117, .bool (fo6 c))] [.mem false [] [c.cells]]) ?_ ?_
  · cases e : fo5 c
    · cases L
      · by_cases t : 0 < c.xs.length
        · simp -dsimp [h, At, e, fo6, ← hL, t, l0, Con.cells, vTerms, vInts, vIntss]
        · simp -dsimp [h, At, e, fo6, ← hL, t, l0, Con.cells, vTerms, vInts, vIntss]
      · simp -dsimp [h, At, e, fo6, ← hL]
    · simp -dsimp [h, At, e, fo6]
  try clear h
  rintro ⟨sl, hp, bs⟩ ⟨rfl, h⟩
  simp only [sls_cons, sls_one, sls_nil] at h
  cases e : fo6 c
  · by_cases k4 : c.kind = 4
    · simp -dsimp [h, At, e, fo7, k4]
    · by_cases t : 0 < c.table.length
      · simp -dsimp [h, At, e, fo7, k4, t, l0, Con.cells, vTerms, vInts, vIntss]
      · simp -dsimp [h, At, e, fo7, k4, t, l0, Con.cells, vTerms, vInts, vIntss]
  · simp -dsimp [h, At, e, fo7]
end Go.Abs.G

namespace Go.Abs.G
open Go.Proofs
set_option linter.unusedVariables false
set_option linter.unusedSimpArgs false

theorem anyTake1 {α : Type} {p : α → Bool} {l : List α} {i : Nat} (h : i < l.length) : (l.take (i + 1)).any p = ((l.take i).any p || p l[i]) := by
  rw [List.take_succ_eq_append_getElem h, List.any_append]; simp
theorem any_of_at {α : Type} {p : α → Bool} {l : List α} {i : Nat} (h : i < l.length) (hp : p l[i] = true) : l.any p = true := List.any_eq_true.2 ⟨_, List.getElem_mem h, hp⟩

theorem termsR_spec (l : List Term) (n : Int) (hl : l.length ≤ maxLen) : Pf Tryz.prog hallmarkref4_terms.id [vTerms l, V.i n] (V.i (termsR l n)) := by
  have hM : (maxLen : Int) ≤ 9223372036854775807 := by decide
  refine DC.of hallmarkref4_terms.ok (by simp) ?_
  unfold hallmarkref4_terms.ir
  refine vc_cut (At [(0, vTerms l), (1, V.i n)] []) (by simp -dsimp [At, vTerms]) ?_
  try clear h
  rintro ⟨sl, hp, bs⟩ ⟨rfl, h⟩
  simp only [sls_cons, sls_one, sls_nil] at h
  refine vc_cut (fun st => badVarB n l = false ∧ At [(0, vTerms l)] [] st) ?_ ?_
  · refine vc_cut (At [(0, vTerms l), (1, V.i n), (5, V.i 0)] []) (by simp -dsimp [h, At]) ?_
    try clear h
    rintro ⟨sl, hp, bs⟩ ⟨rfl, h⟩
    simp only [sls_cons, sls_one, sls_nil] at h
    refine vc_block_of (vc_upto 0 (by simp) l.length (fun i st => badVarB n (l.take i) = false ∧ At [(0, vTerms l), (1, V.i n), (5, V.i i)] [] st) ⟨rfl, rfl, by simpa using h⟩ ?_)
    clear h
    rintro i ⟨sl, hp, bs⟩ hi ⟨hx, rfl, h⟩
    simp only [sls_cons, sls_one] at h
    unfold hallmarkref4_terms.b0
    by_cases hil : i < l.length
    · have hw : IntKind.i64.wrap ((i : Int) + 1) = ((i + 1 : Nat) : Int) := by rw [wrap64] <;> omega
      refine vc_cut (At [(0, vTerms l), (1, V.i n), (5, V.i i)] []) (by simp -dsimp [h, At, hil, vTerms]) ?_
      try clear h
      rintro ⟨sl, hp, bs⟩ ⟨rfl, h⟩
      simp only [sls_cons, sls_one, sls_nil] at h
      obtain ⟨t, ht⟩ : ∃ t, t = l[i] := ⟨_, rfl⟩
      refine vc_cut (fun st => (decide (t.x < 0) || decide (n ≤ t.x)) = false ∧ At [(0, vTerms l), (1, V.i n), (5, V.i i)] [] st) ?_ ?_
      · refine vc_block_of ?_
        have hbad : (decide (t.x < 0) || decide (n ≤ t.x)) = true → termsR l n = 44 := fun e => by
          have : badVarB n l = true := any_of_at hil (by rw [← ht]; exact e)
          unfold termsR; rw [this]; rfl
        by_cases a : t.x < 0
        · simp -dsimp [h, At, hil, vTerms, ← ht, Term.cells, a, hallmarkref4_terms.rs, hbad (by simp [a])]
        · by_cases b : n ≤ t.x
          · simp -dsimp [h, At, hil, vTerms, ← ht, Term.cells, a, b, hallmarkref4_terms.rs, hbad (by simp [b])]
          · simp -dsimp [h, At, hil, vTerms, ← ht, Term.cells, a, b]
      try clear h
      rintro ⟨sl, hp, bs⟩ ⟨hb, rfl, h⟩
      simp only [sls_cons, sls_one, sls_nil] at h
      have hx2 : badVarB n (l.take (i + 1)) = false := by
        unfold badVarB at hx ⊢
        rw [anyTake1 hil, hx, ← ht, hb]; rfl
      simp -dsimp [h, At, hw, hil, vTerms, hx2]
    · have hil' : i = l.length := by omega
      subst hil'
      rw [List.take_length] at hx
      simp -dsimp [h, At, vTerms, hx]
  try clear h
  rintro ⟨sl, hp, bs⟩ ⟨hb, rfl, h⟩
  simp only [sls_cons, sls_one, sls_nil] at h
  have hT : termsR l n = if badCoefB l then 45 else 0 := by unfold termsR; rw [hb]; rfl
  rw [hT]
  refine vc_cut (fun st => badCoefB l = false ∧ At [] [] st) ?_ ?_
  · refine vc_cut (At [(0, vTerms l), (6, V.i 0)] []) (by simp -dsimp [h, At]) ?_
    try clear h
    rintro ⟨sl, hp, bs⟩ ⟨rfl, h⟩
    simp only [sls_cons, sls_one, sls_nil] at h
    refine vc_block_of (vc_upto 0 (by simp) l.length (fun i st => badCoefB (l.take i) = false ∧ At [(0, vTerms l), (6, V.i i)] [] st) ⟨rfl, rfl, by simpa using h⟩ ?_)
    clear h
    rintro i ⟨sl, hp, bs⟩ hi ⟨hx, rfl, h⟩
    simp only [sls_cons, sls_one] at h
    unfold hallmarkref4_terms.b1
    by_cases hil : i < l.length
    · have hw : IntKind.i64.wrap ((i : Int) + 1) = ((i + 1 : Nat) : Int) := by rw [wrap64] <;> omega
      refine vc_cut (At [(0, vTerms l), (6, V.i i)] []) (by simp -dsimp [h, At, hil, vTerms]) ?_
      try clear h
      rintro ⟨sl, hp, bs⟩ ⟨rfl, h⟩
      simp only [sls_cons, sls_one, sls_nil] at h
      obtain ⟨t, ht⟩ : ∃ t, t = l[i] := ⟨_, rfl⟩
      refine vc_cut (fun st => (decide (t.c = 0) || !withinB t.c 1000000) = false ∧ At [(0, vTerms l), (6, V.i i)] [] st) ?_ ?_
      · refine vc_block_of ?_
        have hbad : (decide (t.c = 0) || !withinB t.c 1000000) = true → badCoefB l = true := fun e => any_of_at hil (by rw [← ht]; exact e)
        simp -dsimp [h, hil, vTerms, ← ht, Term.cells]
        refine gcall (coefR_spec t.c) (by simp -dsimp [h]) (by simp -dsimp [h]) ?_
        cases a : (decide (t.c = 0) || !withinB t.c 1000000)
        · simp -dsimp [h, At, a, vTerms]
        · simp -dsimp [h, a, hbad a, hallmarkref4_terms.rs]
      try clear h
      rintro ⟨sl, hp, bs⟩ ⟨hb, rfl, h⟩
      simp only [sls_cons, sls_one, sls_nil] at h
      have hx2 : badCoefB (l.take (i + 1)) = false := by
        unfold badCoefB at hx ⊢
        rw [anyTake1 hil, hx, ← ht, hb]; rfl
      simp -dsimp [h, At, hw, hil, vTerms, hx2]
    · have hil' : i = l.length := by omega
      subst hil'
      rw [List.take_length] at hx
      simp -dsimp [h, At, vTerms, hx]
  try clear h
  rintro ⟨sl, hp, bs⟩ ⟨hb, rfl, h⟩
  simp -dsimp [hallmarkref4_terms.rs, hb]

def oddB (k : Nat) (l : List (List Int)) : Bool := l.any fun r => decide (r.length ≠ k)
theorem rowsR_spec (c : Con) (hc : c.rows.length ≤ maxLen) : Pf Tryz.prog hallmarkref4_rows.id [.agg c.cells] (.bool (rowsR c)) := by
  have hM : (maxLen : Int) ≤ 9223372036854775807 := by decide
  refine DC.of hallmarkref4_rows.ok (by simp) ?_
  unfold hallmarkref4_rows.ir
  refine vc_cut (At [(1, .ptr 0 1 0 0)] [.mem false [] [c.cells]]) (by simp -dsimp [At, Con.cells, vTerms, vInts, vIntss]) ?_
  try clear h
  rintro ⟨sl, hp, bs⟩ ⟨rfl, h⟩
  simp only [sls_cons, sls_one, sls_nil] at h
  refine vc_cut (fun st => (decide (8 < c.xs.length) || manyB c.rows.length) = false ∧ At [(1, .ptr 0 1 0 0)] [.mem false [] [c.cells]] st) ?_ ?_
  · by_cases h8 : 8 < c.xs.length
    · have h8' : (8 : Int) < c.xs.length := by omega
      have hr : rowsR c = false := by simp [rowsR, h8]
      simp -dsimp [h, Con.cells, vTerms, vInts, vIntss, h8', hallmarkref4_rows.rs, hr]
    · have h8' : ¬ (8 : Int) < c.xs.length := by omega
      simp -dsimp [h, Con.cells, vTerms, vInts, vIntss, h8']
      refine gcall (manyR_spec c.rows.length) (by simp -dsimp [h]) (by simp -dsimp [h]) ?_
      cases a : manyB c.rows.length
      · simp -dsimp [h, At, h8, Con.cells, vTerms, vInts, vIntss]
      · have hr : rowsR c = false := by simp [rowsR, a]
        simp -dsimp [h, hr, hallmarkref4_rows.rs]
  try clear h
  rintro ⟨sl, hp, bs⟩ ⟨hb, rfl, h⟩
  simp only [sls_cons, sls_one, sls_nil] at h
  have hR : rowsR c = !(oddB c.xs.length c.rows) := by
    have e : ∀ l : List (List Int), (l.all fun r => decide (r.length = c.xs.length)) = !(oddB c.xs.length l) := fun l => by
      unfold oddB
      induction l with
      | nil => rfl
      | cons a l ih => rw [List.all_cons, List.any_cons, ih]; by_cases e : a.length = c.xs.length <;> simp [e]
    unfold rowsR; rw [hb, e]; rfl
  rw [hR]
  refine vc_cut (fun st => (oddB c.xs.length c.rows) = false ∧ At [] [.mem false [] [c.cells]] st) ?_ ?_
  · refine vc_cut (At [(1, .ptr 0 1 0 0), (3, V.i 0)] [.mem false [] [c.cells]]) (by simp -dsimp [h, At]) ?_
    try clear h
    rintro ⟨sl, hp, bs⟩ ⟨rfl, h⟩
    simp only [sls_cons, sls_one, sls_nil] at h
    refine vc_block_of (vc_upto 1 (by simp) c.rows.length (fun i st => oddB c.xs.length (c.rows.take i) = false ∧ At [(1, .ptr 0 1 0 0), (3, V.i i)] [.mem false [] [c.cells]] st) ⟨rfl, rfl, by simpa using h⟩ ?_)
    clear h
    rintro i ⟨sl, hp, bs⟩ hi ⟨hx, rfl, h⟩
    simp only [sls_cons, sls_one] at h
    unfold hallmarkref4_rows.b0
    by_cases hil : i < c.rows.length
    · have hw : IntKind.i64.wrap ((i : Int) + 1) = ((i + 1 : Nat) : Int) := by rw [wrap64] <;> omega
      refine vc_cut (At [(1, .ptr 0 1 0 0), (3, V.i i)] [.mem false [] [c.cells]]) (by simp -dsimp [h, At, hil, Con.cells, vTerms, vInts, vIntss]) ?_
      try clear h
      rintro ⟨sl, hp, bs⟩ ⟨rfl, h⟩
      simp only [sls_cons, sls_one, sls_nil] at h
      obtain ⟨t, ht⟩ : ∃ t, t = c.rows[i] := ⟨_, rfl⟩
      refine vc_cut (fun st => (decide (t.length ≠ c.xs.length)) = false ∧ At [(1, .ptr 0 1 0 0), (3, V.i i)] [.mem false [] [c.cells]] st) ?_ ?_
      · refine vc_block_of ?_
        have hbad : t.length ≠ c.xs.length → (oddB c.xs.length c.rows) = true := fun e => any_of_at hil (by rw [← ht]; simp [e])
        have ei : ((t.length : Int) = c.xs.length) ↔ t.length = c.xs.length := by omega
        by_cases a : t.length = c.xs.length
        · simp -dsimp [h, At, hil, ← ht, Con.cells, vTerms, vInts, vIntss, a, ei]
        · simp -dsimp [h, At, hil, ← ht, Con.cells, vTerms, vInts, vIntss, a, ei, hallmarkref4_rows.rs, hbad a]
      try clear h
      rintro ⟨sl, hp, bs⟩ ⟨hb, rfl, h⟩
      simp only [sls_cons, sls_one, sls_nil] at h
      have hx2 : oddB c.xs.length (c.rows.take (i + 1)) = false := by
        unfold oddB at hx ⊢; rw [anyTake1 hil, hx, ← ht, hb]; rfl
      simp -dsimp [h, At, hw, hil, hx2, Con.cells, vTerms, vInts, vIntss]
    · have hil' : i = c.rows.length := by omega
      subst hil'
      rw [List.take_length] at hx
      simp -dsimp [h, At, hx, Con.cells, vTerms, vInts, vIntss]
  try clear h
  rintro ⟨sl, hp, bs⟩ ⟨hb, rfl, h⟩
  simp -dsimp [hallmarkref4_rows.rs, hb]

theorem placesR_spec (c : Con) (n : Int) (hc : c.xs.length ≤ maxLen) : Pf Tryz.prog hallmarkref4_places.id [.agg c.cells, V.i n] (.bool (placesR c n)) := by
  have hM : (maxLen : Int) ≤ 9223372036854775807 := by decide
  refine DC.of hallmarkref4_places.ok (by simp) ?_
  unfold hallmarkref4_places.ir
  refine vc_cut (At [(1, V.i n), (2, .ptr 0 1 0 0)] [.mem false [] [c.cells]]) (by simp -dsimp [At, Con.cells, vTerms, vInts, vIntss]) ?_
  try clear h
  rintro ⟨sl, hp, bs⟩ ⟨rfl, h⟩
  simp only [sls_cons, sls_one, sls_nil] at h
  refine vc_cut (At [(1, V.i n), (2, .ptr 0 1 0 0), (5, .bool (placeR c.x n && placeR c.y n))] [.mem false [] [c.cells]]) ?_ ?_
  · simp -dsimp [h, Con.cells, vTerms, vInts, vIntss]
    refine gcall (placeR_spec c.x n) (by simp -dsimp [h]) (by simp -dsimp [h]) ?_
    cases a : placeR c.x n
    · simp -dsimp [h, At, Con.cells, vTerms, vInts, vIntss]
    · simp -dsimp [h, Con.cells, vTerms, vInts, vIntss]
      refine gcall (placeR_spec c.y n) (by simp -dsimp [h]) (by simp -dsimp [h]) ?_
      simp -dsimp [h, At, Con.cells, vTerms, vInts, vIntss]
  try clear h
  rintro ⟨sl, hp, bs⟩ ⟨rfl, h⟩
  simp only [sls_cons, sls_one, sls_nil] at h
  have hA : ∀ (b : Bool) (i : Nat) (hi : i < c.xs.length), (b && (c.xs.take (i + 1)).all fun x => placeR x n) = ((b && (c.xs.take i).all fun x => placeR x n) && placeR c.xs[i] n) := fun b i hi => by
    rw [List.take_succ_eq_append_getElem hi, List.all_append]; simp [Bool.and_assoc]
  refine vc_cut (At [(5, .bool (placesR c n))] [.mem false [] [c.cells]]) ?_ ?_
  · refine vc_cut (At [(1, V.i n), (2, .ptr 0 1 0 0), (5, .bool (placeR c.x n && placeR c.y n)), (6, V.i 0)] [.mem false [] [c.cells]]) (by simp -dsimp [h, At]) ?_
    try clear h
    rintro ⟨sl, hp, bs⟩ ⟨rfl, h⟩
    simp only [sls_cons, sls_one, sls_nil] at h
    refine vc_block_of (vc_upto 1 (by simp) c.xs.length (fun i st => At [(1, V.i n), (2, .ptr 0 1 0 0), (5, .bool ((placeR c.x n && placeR c.y n) && (c.xs.take i).all fun x => placeR x n)), (6, V.i i)] [.mem false [] [c.cells]] st) ⟨rfl, by simpa using h⟩ ?_)
    clear h
    rintro i ⟨sl, hp, bs⟩ hi ⟨rfl, h⟩
    simp only [sls_cons, sls_one] at h
    unfold hallmarkref4_places.b0
    by_cases hil : i < c.xs.length
    · have hw : IntKind.i64.wrap ((i : Int) + 1) = ((i + 1 : Nat) : Int) := by rw [wrap64] <;> omega
      rw [hA _ i hil]
      cases a : ((placeR c.x n && placeR c.y n) && (c.xs.take i).all fun x => placeR x n)
      · rw [a] at h
        simp -dsimp [h, At, hil, hw, Con.cells, vTerms, vInts, vIntss]
      · rw [a] at h
        simp -dsimp [h, hil, Con.cells, vTerms, vInts, vIntss]
        refine gcall (placeR_spec c.xs[i] n) (by simp -dsimp [h]) (by simp -dsimp [h]) ?_
        simp -dsimp [h, At, hil, hw, Con.cells, vTerms, vInts, vIntss]
    · have hil' : i = c.xs.length := by omega
      subst hil'
      rw [List.take_length] at h
      simp -dsimp [h, At, placesR, Con.cells, vTerms, vInts, vIntss]
  try clear h
  rintro ⟨sl, hp, bs⟩ ⟨rfl, h⟩
  simp only [sls_cons, sls_one, sls_nil] at h
  simp -dsimp [h, hallmarkref4_places.rs]
end Go.Abs.G

namespace Go.Abs.G
open Go.Proofs
set_option linter.unusedVariables false
set_option linter.unusedSimpArgs false

theorem any_greatB_bad {l : List Int} {i : Nat} (h : i < l.length) (hb : withinB l[i] 1000000000 = false) : greatB l = true := any_of_at h (by rw [hb]; rfl)

theorem conR_spec (c : Con) (n : Int) (hn : 0 < n) (hc : okCon c) : Pf Tryz.prog hallmarkref4_Con.id [.agg c.cells, V.i n] (V.i (conB c n)) := by
  have hM : (maxLen : Int) ≤ 9223372036854775807 := by decide
  obtain ⟨_, _, ht, _, _, _, _, hx, hb, hr, hrr⟩ := hc
  replace ht := ht.1
  replace hx := hx.1
  replace hb := hb.1
  rw [← conR_eq c n hn]
  refine DC.of hallmarkref4_Con.ok (by simp) ?_
  unfold hallmarkref4_Con.ir
  refine vc_cut (At [(1, V.i n), (2, .ptr 0 1 0 0)] [.mem false [] [c.cells]]) (by simp -dsimp [At, Con.cells, vTerms, vInts, vIntss]) ?_
  try clear h
  rintro ⟨sl, hp, bs⟩ ⟨rfl, h⟩
  simp only [sls_cons, sls_one, sls_nil] at h
  -- the kind
  obtain ⟨A, hA⟩ : ∃ A, A = (decide (c.kind < 1) || decide (9 < c.kind) || ((decide (c.kind = 1) || decide (c.kind = 9)) && (decide (c.op < 1) || decide (3 < c.op)))) := ⟨_, rfl⟩
  refine vc_cut (fun st => A = false ∧ At [(1, V.i n), (2, .ptr 0 1 0 0)] [.mem false [] [c.cells]] st) ?_ ?_
  · refine vc_cut (At [(1, V.i n), (2, .ptr 0 1 0 0), (37, .bool A)] [.mem false [] [c.cells]]) ?_ ?_
    · by_cases k1 : c.kind < 1
      · simp -dsimp [h, At, k1, hA, Con.cells, vTerms, vInts, vIntss]
      · by_cases k9 : 9 < c.kind
        · simp -dsimp [h, At, k1, k9, hA, Con.cells, vTerms, vInts, vIntss]
        · by_cases e1 : c.kind = 1
          · by_cases o1 : c.op < 1
            · simp -dsimp [h, At, e1, o1, hA, Con.cells, vTerms, vInts, vIntss]
            · simp -dsimp [h, At, e1, o1, hA, Con.cells, vTerms, vInts, vIntss]
          · by_cases e9 : c.kind = 9
            · by_cases o1 : c.op < 1
              · simp -dsimp [h, At, e9, o1, hA, Con.cells, vTerms, vInts, vIntss]
              · simp -dsimp [h, At, e9, o1, hA, Con.cells, vTerms, vInts, vIntss]
            · simp -dsimp [h, At, e1, e9, k1, k9, hA, Con.cells, vTerms, vInts, vIntss]
    try clear h
    rintro ⟨sl, hp, bs⟩ ⟨rfl, h⟩
    simp only [sls_cons, sls_one, sls_nil] at h
    cases hAA : A
    · rw [hAA] at h
      simp -dsimp [h, At]
    · rw [hAA] at h
      have hC : conR c n = 43 := by unfold conR; rw [← hA, hAA]; rfl
      simp -dsimp [h, hC, hallmarkref4_Con.rs]
  try clear h
  rintro ⟨sl, hp, bs⟩ ⟨hAA, rfl, h⟩
  simp only [sls_cons, sls_one, sls_nil] at h
  unfold conR
  rw [← hA, hAA, if_neg (by simp)]
  -- fields that the kind hasn't
  refine vc_cut (fun st => foreignB c = false ∧ At [(1, V.i n), (2, .ptr 0 1 0 0)] [.mem false [] [c.cells]] st) ?_ ?_
  · simp -dsimp [h, Con.cells, vTerms, vInts, vIntss]
    refine gcall (foreignR_spec c) (by simp -dsimp [h, Con.cells, vTerms, vInts, vIntss]) (by simp -dsimp [h, Con.cells, vTerms, vInts, vIntss]) ?_
    cases a : foreignB c
    · simp -dsimp [h, At, Con.cells, vTerms, vInts, vIntss]
    · simp -dsimp [h, hallmarkref4_Con.rs]
  try clear h
  rintro ⟨sl, hp, bs⟩ ⟨hB, rfl, h⟩
  simp only [sls_cons, sls_one, sls_nil] at h
  rw [if_neg (by simp [hB])]
  refine vc_cut (At [(1, V.i n), (2, .ptr 0 1 0 0), (5, .bool (foS c))] [.mem false [] [c.cells]]) ?_ ?_
  · by_cases k : c.kind = 1
    · simp -dsimp [h, At, k, foS, Con.cells, vTerms, vInts, vIntss]
    · simp -dsimp [h, At, k, foS, Bool.beq_eq_decide_eq, Con.cells, vTerms, vInts, vIntss]
  try clear h
  rintro ⟨sl, hp, bs⟩ ⟨rfl, h⟩
  simp only [sls_cons, sls_one, sls_nil] at h
  -- too many
  obtain ⟨M1, hM1⟩ : ∃ M1, M1 = (foS c && manyB c.terms.length) := ⟨_, rfl⟩
  obtain ⟨M2, hM2⟩ : ∃ M2, M2 = (M1 || (listsB c.kind && manyB c.xs.length)) := ⟨_, rfl⟩
  obtain ⟨M3, hM3⟩ : ∃ M3, M3 = (M2 || (decide (c.kind = 4) && manyB c.table.length)) := ⟨_, rfl⟩
  obtain ⟨M4, hM4⟩ : ∃ M4, M4 = (M3 || (decide (c.kind = 8) && !rowsR c)) := ⟨_, rfl⟩
  have hMM : (((decide (c.kind = 1) || decide (c.kind = 7)) && manyB c.terms.length) || (listsB c.kind && manyB c.xs.length) || (decide (c.kind = 4) && manyB c.table.length) || (decide (c.kind = 8) && !rowsR c)) = M4 := by rw [hM4, hM3, hM2, hM1]; rfl
  rw [hMM]
  refine vc_cut (fun st => M4 = false ∧ At [(1, V.i n), (2, .ptr 0 1 0 0)] [.mem false [] [c.cells]] st) ?_ ?_
  · refine vc_cut (At [(1, V.i n), (2, .ptr 0 1 0 0), (86, .bool M4)] [.mem false [] [c.cells]]) ?_ ?_
    · refine vc_reg_of (vcIts_cut 8 (At [(1, V.i n), (2, .ptr 0 1 0 0), (55, .bool M1)] [.mem false [] [c.cells]]) ?_ ?_)
      · obtain ⟨S, hS⟩ : ∃ S, S = foS c := ⟨_, rfl⟩
        rw [← hS] at h hM1
        cases S
        · simp -dsimp [h, At, hM1]
        · simp -dsimp [h, Con.cells, vTerms, vInts, vIntss]
          refine gcall (manyR_spec c.terms.length) (by simp -dsimp [h]) (by simp -dsimp [h]) ?_
          simp -dsimp [h, At, hM1, Con.cells, vTerms, vInts, vIntss]
      try clear h
      rintro ⟨sl, hp, bs⟩ ⟨rfl, h⟩
      simp only [sls_cons, sls_one, sls_nil] at h
      refine vcIts_cut 11 (At [(1, V.i n), (2, .ptr 0 1 0 0), (66, .bool M2)] [.mem false [] [c.cells]]) ?_ ?_
      · cases M1
        · simp -dsimp [h, Con.cells, vTerms, vInts, vIntss]
          refine gcall (listsR_spec c.kind) (by simp -dsimp [h]) (by simp -dsimp [h]) ?_
          cases b : listsB c.kind
          · simp -dsimp [h, At, hM2, b, Con.cells, vTerms, vInts, vIntss]
          · simp -dsimp [h, b, Con.cells, vTerms, vInts, vIntss]
            refine gcall (manyR_spec c.xs.length) (by simp -dsimp [h]) (by simp -dsimp [h]) ?_
            simp -dsimp [h, At, hM2, b, Con.cells, vTerms, vInts, vIntss]
        · simp -dsimp [h, At, hM2]
      try clear h
      rintro ⟨sl, hp, bs⟩ ⟨rfl, h⟩
      simp only [sls_cons, sls_one, sls_nil] at h
      refine vcIts_cut 11 (At [(1, V.i n), (2, .ptr 0 1 0 0), (77, .bool M3)] [.mem false [] [c.cells]]) ?_ ?_
      · cases M2
        · by_cases k4 : c.kind = 4
          · simp -dsimp [h, k4, Con.cells, vTerms, vInts, vIntss]
            refine gcall (manyR_spec c.table.length) (by simp -dsimp [h]) (by simp -dsimp [h]) ?_
            simp -dsimp [h, At, hM3, k4, Con.cells, vTerms, vInts, vIntss]
          · simp -dsimp [h, At, hM3, k4, Con.cells, vTerms, vInts, vIntss]
        · simp -dsimp [h, At, hM3]
      try clear h
      rintro ⟨sl, hp, bs⟩ ⟨rfl, h⟩
      simp only [sls_cons, sls_one, sls_nil] at h
      cases M3
      · by_cases k8 : c.kind = 8
        · have hcc : c.cells = [V.i 8, V.i c.op, vTerms c.terms, V.i c.k, V.i c.v, V.i c.x, V.i c.y, vInts c.xs, vInts c.table, vIntss c.rows] := by rw [← k8]; rfl
          simp -dsimp [h, Con.cells, k8, vTerms, vInts, vIntss]
          refine gcall (rowsR_spec c hr) (by simp -dsimp [h, Con.cells, k8, vTerms, vInts, vIntss]) (by simp -dsimp [h, Con.cells, vTerms, vInts, vIntss]) ?_
          simp -dsimp [h, At, hM4, k8, Con.cells, vTerms, vInts, vIntss]
        · simp -dsimp [h, At, hM4, k8, Con.cells, vTerms, vInts, vIntss]
      · simp -dsimp [h, At, hM4]
    try clear h
    rintro ⟨sl, hp, bs⟩ ⟨rfl, h⟩
    simp only [sls_cons, sls_one, sls_nil] at h
    cases hAA : M4
    · rw [hAA] at h
      simp -dsimp [h, At]
    · rw [hAA] at h
      simp -dsimp [h, hallmarkref4_Con.rs]
  try clear h
  rintro ⟨sl, hp, bs⟩ ⟨hM4', rfl, h⟩
  simp only [sls_cons, sls_one, sls_nil] at h
  rw [hM4', if_neg (by simp)]
  refine vc_cut (At [(1, V.i n), (2, .ptr 0 1 0 0), (6, V.i (termsR c.terms n))] [.mem false [] [c.cells]]) ?_ ?_
  · simp -dsimp [h, Con.cells, vTerms, vInts, vIntss]
    refine gcall (termsR_spec c.terms n ht) (by simp -dsimp [h, vTerms]) (by simp -dsimp [h, vTerms]) ?_
    simp -dsimp [h, At, Con.cells, vTerms, vInts, vIntss]
  try clear h
  rintro ⟨sl, hp, bs⟩ ⟨rfl, h⟩
  simp only [sls_cons, sls_one, sls_nil] at h
  obtain ⟨T, hT⟩ : ∃ T, T = termsR c.terms n := ⟨_, rfl⟩
  rw [← hT] at h ⊢
  refine vc_cut (fun st => (!placesR c n || decide (T = 44)) = false ∧ At [(2, .ptr 0 1 0 0), (6, V.i T)] [.mem false [] [c.cells]] st) ?_ ?_
  · simp -dsimp [h, Con.cells, vTerms, vInts, vIntss]
    refine gcall (placesR_spec c n hx) (by simp -dsimp [h, Con.cells, vTerms, vInts, vIntss]) (by simp -dsimp [h, Con.cells, vTerms, vInts, vIntss]) ?_
    cases a : placesR c n
    · simp -dsimp [h, hallmarkref4_Con.rs]
    · by_cases e : T = 44
      · simp -dsimp [h, e, hallmarkref4_Con.rs]
      · simp -dsimp [h, At, e, Con.cells, vTerms, vInts, vIntss]
  try clear h
  rintro ⟨sl, hp, bs⟩ ⟨hP, rfl, h⟩
  simp only [sls_cons, sls_one, sls_nil] at h
  rw [hP, if_neg (by simp)]
  refine vc_cut (fun st => T = 0 ∧ At [(2, .ptr 0 1 0 0)] [.mem false [] [c.cells]] st) ?_ ?_
  · by_cases e : T = 0
    · simp -dsimp [h, At, e]
    · simp -dsimp [h, e, hallmarkref4_Con.rs]
  try clear h
  rintro ⟨sl, hp, bs⟩ ⟨hT0, rfl, h⟩
  simp only [sls_cons, sls_one, sls_nil] at h
  rw [if_neg (by simp [hT0])]
  refine vc_cut (fun st => (!withinB c.k 1000000000 || !withinB c.v 1000000000) = false ∧ At [(2, .ptr 0 1 0 0)] [.mem false [] [c.cells]] st) ?_ ?_
  · simp -dsimp [h, Con.cells, vTerms, vInts, vIntss]
    refine gcall (numberR_spec c.k) (by simp -dsimp [h]) (by simp -dsimp [h]) ?_
    cases a : withinB c.k 1000000000
    · simp -dsimp [h, hallmarkref4_Con.rs]
    · simp -dsimp [h]
      refine gcall (numberR_spec c.v) (by simp -dsimp [h]) (by simp -dsimp [h]) ?_
      cases b : withinB c.v 1000000000
      · simp -dsimp [h, hallmarkref4_Con.rs]
      · simp -dsimp [h, At, Con.cells, vTerms, vInts, vIntss]
  try clear h
  rintro ⟨sl, hp, bs⟩ ⟨hK, rfl, h⟩
  simp only [sls_cons, sls_one, sls_nil] at h
  rw [hK, if_neg (by simp)]
  -- numbers of rows
  have hM9 := hM
  refine vc_cut (fun st => c.rows.any greatB = false ∧ At [(2, .ptr 0 1 0 0)] [.mem false [] [c.cells]] st) ?_ ?_
  · refine vc_cut (At [(2, .ptr 0 1 0 0), (7, V.i 0)] [.mem false [] [c.cells]]) (by simp -dsimp [h, At]) ?_
    try clear h
    rintro ⟨sl, hp, bs⟩ ⟨rfl, h⟩
    simp only [sls_cons, sls_one, sls_nil] at h
    refine vc_block_of (vc_upto 1 (by simp) c.rows.length (fun i st => (c.rows.take i).any greatB = false ∧ At [(2, .ptr 0 1 0 0), (7, V.i i)] [.mem false [] [c.cells]] st) ⟨rfl, rfl, by simpa using h⟩ ?_)
    clear h
    rintro i ⟨sl, hp, bs⟩ hi ⟨hx, rfl, h⟩
    simp only [sls_cons, sls_one] at h
    unfold hallmarkref4_Con.b0
    by_cases hil : i < c.rows.length
    · have hw : IntKind.i64.wrap ((i : Int) + 1) = ((i + 1 : Nat) : Int) := by rw [wrap64] <;> omega
      refine vc_cut (At [(2, .ptr 0 1 0 0), (7, V.i i)] [.mem false [] [c.cells]]) (by simp -dsimp [h, At, hil, Con.cells, vTerms, vInts, vIntss]) ?_
      try clear h
      rintro ⟨sl, hp, bs⟩ ⟨rfl, h⟩
      simp only [sls_cons, sls_one, sls_nil] at h
      obtain ⟨t, ht'⟩ : ∃ t, t = c.rows[i] := ⟨_, rfl⟩
      have hlt : t.length ≤ maxLen := by rw [ht']; exact (hrr _ (List.getElem_mem hil)).1
      refine vc_cut (fun st => greatB t = false ∧ At [(2, .ptr 0 1 0 0), (7, V.i i)] [.mem false [] [c.cells]] st) ?_ ?_
      · refine vc_block_of ?_
        refine vc_cut (At [(2, .ptr 0 1 0 0), (7, V.i i), (8, V.i 0)] [.mem false [] [c.cells]]) (by simp -dsimp [h, At]) ?_
        try clear h
        rintro ⟨sl, hp, bs⟩ ⟨rfl, h⟩
        simp only [sls_cons, sls_one, sls_nil] at h
        refine vc_block_of (vc_upto 1 (by simp) t.length (fun j st => greatB (t.take j) = false ∧ At [(2, .ptr 0 1 0 0), (7, V.i i), (8, V.i j)] [.mem false [] [c.cells]] st) ⟨rfl, rfl, by simpa using h⟩ ?_)
        clear h
        rintro j ⟨sl, hp, bs⟩ hj ⟨hg, rfl, h⟩
        simp only [sls_cons, sls_one] at h
        unfold hallmarkref4_Con.b1
        by_cases hjl : j < t.length
        · have hw : IntKind.i64.wrap ((j : Int) + 1) = ((j + 1 : Nat) : Int) := by rw [wrap64] <;> omega
          refine vc_cut (At [(2, .ptr 0 1 0 0), (7, V.i i), (8, V.i j)] [.mem false [] [c.cells]]) (by simp -dsimp [h, At, hil, hjl, ← ht', Con.cells, vTerms, vInts, vIntss]) ?_
          try clear h
          rintro ⟨sl, hp, bs⟩ ⟨rfl, h⟩
          simp only [sls_cons, sls_one, sls_nil] at h
          refine vc_cut (fun st => withinB t[j] 1000000000 = true ∧ At [(2, .ptr 0 1 0 0), (7, V.i i), (8, V.i j)] [.mem false [] [c.cells]] st) ?_ ?_
          · refine vc_block_of ?_
            simp -dsimp [h, hil, hjl, ← ht', Con.cells, vTerms, vInts, vIntss]
            refine gcall (numberR_spec t[j]) (by simp -dsimp [h]) (by simp -dsimp [h]) ?_
            cases a : withinB t[j] 1000000000
            · have hbad : c.rows.any greatB = true := any_of_at hil (by rw [← ht']; exact any_greatB_bad hjl a)
              simp -dsimp [h, hbad, hallmarkref4_Con.rs]
            · simp -dsimp [h, At, Con.cells, vTerms, vInts, vIntss]
          try clear h
          rintro ⟨sl, hp, bs⟩ ⟨hb, rfl, h⟩
          simp only [sls_cons, sls_one, sls_nil] at h
          have hx2 : greatB (t.take (j + 1)) = false := by
            unfold greatB at hg ⊢
            rw [anyTake1 hjl, hg, hb]; rfl
          simp -dsimp [h, At, hw, hjl, hx2, Con.cells, vTerms, vInts, vIntss]
        · have hjl' : j = t.length := by omega
          subst hjl'
          rw [List.take_length] at hg
          simp -dsimp [h, At, hg, hil, ← ht', Con.cells, vTerms, vInts, vIntss]
      try clear h
      rintro ⟨sl, hp, bs⟩ ⟨hb, rfl, h⟩
      simp only [sls_cons, sls_one, sls_nil] at h
      have hx2 : (c.rows.take (i + 1)).any greatB = false := by
        rw [anyTake1 hil, hx, ← ht', hb]; rfl
      rw [hx2]
      simp -dsimp [h, At, hw, hil, Con.cells, vTerms, vInts, vIntss]
    · have hil' : i = c.rows.length := by omega
      subst hil'
      rw [List.take_length] at hx
      rw [hx]
      simp -dsimp [h, At, Con.cells, vTerms, vInts, vIntss]
  try clear h
  rintro ⟨sl, hp, bs⟩ ⟨hR, rfl, h⟩
  simp only [sls_cons, sls_one, sls_nil] at h
  rw [hR, if_neg (by simp)]
  refine vc_cut (fun st => greatB c.table = false ∧ At [] [.mem false [] [c.cells]] st) ?_ ?_
  · refine vc_cut (At [(2, .ptr 0 1 0 0), (9, V.i 0)] [.mem false [] [c.cells]]) (by simp -dsimp [h, At]) ?_
    try clear h
    rintro ⟨sl, hp, bs⟩ ⟨rfl, h⟩
    simp only [sls_cons, sls_one, sls_nil] at h
    refine vc_block_of (vc_upto 1 (by simp) c.table.length (fun j st => greatB (c.table.take j) = false ∧ At [(2, .ptr 0 1 0 0), (9, V.i j)] [.mem false [] [c.cells]] st) ⟨rfl, rfl, by simpa using h⟩ ?_)
    clear h
    rintro j ⟨sl, hp, bs⟩ hj ⟨hg, rfl, h⟩
    simp only [sls_cons, sls_one] at h
    unfold hallmarkref4_Con.b2
    by_cases hjl : j < c.table.length
    · have hw : IntKind.i64.wrap ((j : Int) + 1) = ((j + 1 : Nat) : Int) := by rw [wrap64] <;> omega
      refine vc_cut (At [(2, .ptr 0 1 0 0), (9, V.i j)] [.mem false [] [c.cells]]) (by simp -dsimp [h, At, hjl, Con.cells, vTerms, vInts, vIntss]) ?_
      try clear h
      rintro ⟨sl, hp, bs⟩ ⟨rfl, h⟩
      simp only [sls_cons, sls_one, sls_nil] at h
      refine vc_cut (fun st => withinB c.table[j] 1000000000 = true ∧ At [(2, .ptr 0 1 0 0), (9, V.i j)] [.mem false [] [c.cells]] st) ?_ ?_
      · refine vc_block_of ?_
        simp -dsimp [h, hjl, Con.cells, vTerms, vInts, vIntss]
        refine gcall (numberR_spec c.table[j]) (by simp -dsimp [h]) (by simp -dsimp [h]) ?_
        cases a : withinB c.table[j] 1000000000
        · have hbad : greatB c.table = true := any_greatB_bad hjl a
          simp -dsimp [h, hbad, hallmarkref4_Con.rs]
        · simp -dsimp [h, At, Con.cells, vTerms, vInts, vIntss]
      try clear h
      rintro ⟨sl, hp, bs⟩ ⟨hb, rfl, h⟩
      simp only [sls_cons, sls_one, sls_nil] at h
      have hx2 : greatB (c.table.take (j + 1)) = false := by
        unfold greatB at hg ⊢
        rw [anyTake1 hjl, hg, hb]; rfl
      simp -dsimp [h, At, hw, hjl, hx2, Con.cells, vTerms, vInts, vIntss]
    · have hjl' : j = c.table.length := by omega
      subst hjl'
      rw [List.take_length] at hg
      simp -dsimp [h, At, hg, Con.cells, vTerms, vInts, vIntss]
  try clear h
  rintro ⟨sl, hp, bs⟩ ⟨hR, rfl, h⟩
  simp -dsimp [hallmarkref4_Con.rs, hR]
end Go.Abs.G

namespace Go.Abs.G
open Go.Proofs
set_option linter.unusedVariables false
set_option linter.unusedSimpArgs false

def bt (s : ByteArray) (i : Nat) : Nat := (s.data.toList.getD i 0).toNat
theorem bt_lt (s : ByteArray) (i : Nat) : bt s i < 256 := UInt8.toNat_lt _
theorem byteAt_bt (s : ByteArray) (i : Nat) : byteAt s i = (bt s i : Int) := rfl
theorem get_bt (s : ByteArray) (i : Nat) (h : i < s.size) : (s.get! i).toNat = bt s i := by
  have h' : i < s.data.size := h
  show (s.data[i]!).toNat = (s.data.toList.getD i 0).toNat
  rw [getElem!_pos s.data i h', List.getD_eq_getElem?_getD, List.getElem?_eq_getElem (by simpa using h')]
  simp
def okByte (s : ByteArray) (i : Nat) : Bool := letterB (bt s i) || (decide (i ≠ 0) && decide (48 ≤ bt s i) && decide (bt s i ≤ 57))
theorem decode_small (s : ByteArray) (i : Nat) (h : i < s.size) (hb : bt s i < 128) : Utf8.decode s i = (bt s i, 1) := by
  rw [← get_bt s i h] at hb ⊢
  unfold Utf8.decode
  simp only [Nat.add_zero]
  rw [if_pos hb]
theorem decode_great (s : ByteArray) (i : Nat) (h : i < s.size) (hb : ¬ bt s i < 128) : 128 ≤ (Utf8.decode s i).1 := by
  rw [← get_bt s i h] at hb
  unfold Utf8.decode
  simp only [Nat.add_zero]
  rw [if_neg hb]
  repeat' split
  all_goals (first | (unfold Utf8.runeError; omega) | skip)
  all_goals (rename_i hh; simp at hh; simp; try omega)
theorem letter_great {r : Nat} (h : 128 ≤ r) : letterB r = false := by simp [letterB]; omega
theorem nameFrom_iff (s : ByteArray) : ∀ (f pos : Nat), s.size < f + pos → (nameFrom s f pos = true ↔ ∀ j, pos ≤ j → j < s.size → okByte s j = true) := by
  intro f
  induction f with
  | zero => intro pos h; exact ⟨fun _ j h1 h2 => by omega, fun _ => rfl⟩
  | succ f ih =>
    intro pos h
    by_cases hp : pos < s.size
    · rw [nameFrom_step s f pos hp]
      by_cases hb : bt s pos < 128
      · rw [decode_small s pos hp hb]
        simp only
        have hok : (!letterB (bt s pos) && (decide (pos = 0) || decide (bt s pos < 48) || decide (57 < bt s pos))) = !okByte s pos := by
          unfold okByte
          cases letterB (bt s pos)
          · rw [Bool.eq_iff_iff]; simp; try omega
          · rfl
        rw [hok]
        cases ho : okByte s pos
        · simp
          exact ⟨pos, Nat.le_refl _, hp, ho⟩
        · simp
          rw [ih (pos + 1) (by omega)]
          constructor
          · intro hh j h1 h2
            by_cases e : j = pos
            · rw [e]; exact ho
            · exact hh j (by omega) h2
          · intro hh j h1 h2; exact hh j (by omega) h2
      · have hg := decode_great s pos hp hb
        have ho : okByte s pos = false := by
          unfold okByte; rw [letter_great (by omega)]; simp; omega
        have : (!letterB (Utf8.decode s pos).1 && (decide (pos = 0) || decide ((Utf8.decode s pos).1 < 48) || decide (57 < (Utf8.decode s pos).1))) = true := by
          rw [letter_great hg]; simp; omega
        rw [if_pos this]
        simp
        exact ⟨pos, Nat.le_refl _, hp, ho⟩
    · rw [nameFrom_end s _ pos hp]
      exact ⟨fun _ j h1 h2 => by omega, fun _ => rfl⟩
theorem nameB_iff (s : ByteArray) : nameB s = true ↔ 1 ≤ s.size ∧ s.size ≤ 16 ∧ ∀ j, j < s.size → okByte s j = true := by
  unfold nameB
  rw [Bool.and_eq_true, Bool.and_eq_true, decide_eq_true_eq, decide_eq_true_eq, nameFrom_iff s (s.size + 1) 0 (by omega)]
  constructor
  · rintro ⟨⟨a, b⟩, c⟩; exact ⟨b, c, fun j hj => a j (by omega) hj⟩
  · rintro ⟨a, b, c⟩; exact ⟨⟨fun j _ hj => c j hj, a⟩, b⟩

theorem nameR_spec (s : ByteArray) (hs : s.size ≤ maxLen) : Pf Tryz.prog hallmarkref4_Name.id [.str s] (.bool (nameB s)) := by
  have hM : (maxLen : Int) ≤ 9223372036854775807 := by decide
  have hno : ¬ (1 ≤ s.size ∧ s.size ≤ 16 ∧ ∀ j, j < s.size → okByte s j = true) → nameB s = false := fun h => by
    rw [← nameB_iff] at h; simpa using h
  refine DC.of hallmarkref4_Name.ok (by simp) ?_
  unfold hallmarkref4_Name.ir
  refine vc_cut (At [(0, .str s)] []) (by simp -dsimp [At]) ?_
  try clear h
  rintro ⟨sl, hp, bs⟩ ⟨rfl, h⟩
  simp only [sls_cons, sls_one, sls_nil] at h
  refine vc_cut (fun st => (1 ≤ s.size ∧ s.size ≤ 16 ∧ okByte s 0 = true) ∧ At [(0, .str s)] [] st) ?_ ?_
  · by_cases h1 : 1 ≤ s.size
    · have h1' : ¬ (s.size : Int) < 1 := by omega
      by_cases h2 : 16 < s.size
      · have h2' : (16 : Int) < s.size := by omega
        simp -dsimp [h, h1', h2', hallmarkref4_Name.rs, hno (by omega)]
      · have h2' : ¬ (16 : Int) < s.size := by omega
        have h3 : 0 < s.size := by omega
        simp -dsimp [h, h1', h2', h3]
        refine gcall (letterR_spec (bt s 0) (bt_lt s 0)) (by simp -dsimp [h, byteAt_bt]) (by simp -dsimp [h]) ?_
        cases a : letterB (bt s 0)
        · have hk : nameB s = false := hno fun hh => by
            have := hh.2.2 0 (by omega)
            simp [okByte, a] at this
          simp -dsimp [h, hk, hallmarkref4_Name.rs]
        · have hk : okByte s 0 = true := by simp [okByte, a]
          simp -dsimp [h, At, h1, hk]
          omega
    · have h1' : (s.size : Int) < 1 := by omega
      simp -dsimp [h, h1', hallmarkref4_Name.rs, hno (by omega)]
  try clear h
  rintro ⟨sl, hp, bs⟩ ⟨⟨g1, g2, g3⟩, rfl, h⟩
  simp only [sls_cons, sls_one, sls_nil] at h
  refine vc_cut (fun st => nameB s = true ∧ At [] [] st) ?_ ?_
  · refine vc_cut (At [(0, .str s), (3, V.i 1)] []) (by simp -dsimp [h, At]) ?_
    try clear h
    rintro ⟨sl, hp, bs⟩ ⟨rfl, h⟩
    simp only [sls_cons, sls_one, sls_nil] at h
    refine vc_block_of (vc_upto 0 (by simp) (s.size - 1) (fun i st => (∀ j, j < i + 1 → okByte s j = true) ∧ At [(0, .str s), (3, V.i (i + 1))] [] st) ⟨fun j hj => by rw [show j = 0 by omega]; exact g3, rfl, by simpa using h⟩ ?_)
    clear h
    rintro i ⟨sl, hp, bs⟩ hi ⟨hx, rfl, h⟩
    simp only [sls_cons, sls_one] at h
    unfold hallmarkref4_Name.b0
    by_cases hil : i + 1 < s.size
    · have hw : IntKind.i64.wrap ((i : Int) + 1 + 1) = (i : Int) + 1 + 1 := by rw [wrap64] <;> omega
      have hil' : (i : Int) + 1 < s.size := by omega
      have hn0 : (0 : Int) ≤ (i : Int) + 1 := by omega
      have htn : ((i : Int) + 1).toNat = i + 1 := by omega
      refine vc_cut (At [(0, .str s), (3, V.i (i + 1))] []) (by simp -dsimp [h, At, hil']) ?_
      try clear h
      rintro ⟨sl, hp, bs⟩ ⟨rfl, h⟩
      simp only [sls_cons, sls_one, sls_nil] at h
      refine vc_cut (fun st => okByte s (i + 1) = true ∧ At [(0, .str s), (3, V.i (i + 1))] [] st) ?_ ?_
      · refine vc_block_of ?_
        have hbad : okByte s (i + 1) = false → nameB s = false := fun e => hno fun hh => by
          rw [hh.2.2 _ hil] at e; cases e
        simp -dsimp [h, hil', hn0]
        refine gcall (letterR_spec (bt s (i + 1)) (bt_lt s _)) (by simp -dsimp [h, byteAt_bt, htn]) (by simp -dsimp [h]) ?_
        cases a : letterB (bt s (i + 1))
        · by_cases b1 : bt s (i + 1) < 48
          · have b1' : (bt s (i + 1) : Int) < 48 := by omega
            have ho : okByte s (i + 1) = false := by simp [okByte, a]; omega
            simp -dsimp [h, hil', hn0, htn, byteAt_bt, b1', hbad ho, hallmarkref4_Name.rs]
          · have b1' : ¬ (bt s (i + 1) : Int) < 48 := by omega
            by_cases b2 : 57 < bt s (i + 1)
            · have b2' : (57 : Int) < bt s (i + 1) := by omega
              have ho : okByte s (i + 1) = false := by simp [okByte, a]; omega
              simp -dsimp [h, hil', hn0, htn, byteAt_bt, b1', b2', hbad ho, hallmarkref4_Name.rs]
            · have b2' : ¬ (57 : Int) < bt s (i + 1) := by omega
              have ho : okByte s (i + 1) = true := by simp [okByte, a]; omega
              simp -dsimp [h, At, hil', hn0, htn, byteAt_bt, b1', b2', ho]
        · have ho : okByte s (i + 1) = true := by simp [okByte, a]
          simp -dsimp [h, At, ho]
      try clear h
      rintro ⟨sl, hp, bs⟩ ⟨hb, rfl, h⟩
      simp only [sls_cons, sls_one, sls_nil] at h
      simp -dsimp [h, At, hw]
      refine ⟨by omega, fun j hj => ?_⟩
      by_cases e : j = i + 1
      · rw [e]; exact hb
      · exact hx j (by omega)
    · have hil' : ¬ (i : Int) + 1 < s.size := by omega
      have hk : nameB s = true := (nameB_iff s).2 ⟨g1, g2, fun j hj => hx j (by omega)⟩
      simp -dsimp [h, At, hil', hk]
  try clear h
  rintro ⟨sl, hp, bs⟩ ⟨hb, rfl, h⟩
  simp -dsimp [hb, hallmarkref4_Name.rs]
end Go.Abs.G

namespace Go.Abs.G
open Go.Proofs
set_option linter.unusedVariables false
set_option linter.unusedSimpArgs false

def varsB (l : List Var) : Int × Int :=
  if l.length = 0 ∨ 32 < l.length then (0, 40)
  else match firstBad (varB l) 0 l with
    | some (i, e) => ((i : Int), e)
    | none => (0, 0)

theorem firstBad_ne {α : Type} (f : Nat → α → Int) : ∀ (l : List α) (k i : Nat) (e : Int), firstBad f k l = some (i, e) → e ≠ 0 := by
  intro l
  induction l with
  | nil => intro k i e h; cases h
  | cons x l ih =>
    intro k i e h
    unfold firstBad at h
    split at h
    · exact ih _ _ _ h
    · rename_i h0; cases h; exact h0

theorem varsR_spec (l : List Var) (hl : l.length ≤ maxLen) (hv : ∀ v ∈ l, okVar v) : Pf Tryz.prog hallmarkref4_vars.id [vVars l] (.tup [V.i (varsB l).1, V.i (varsB l).2]) := by
  have hM : (maxLen : Int) ≤ 9223372036854775807 := by decide
  refine DC.of hallmarkref4_vars.ok (by simp) ?_
  unfold hallmarkref4_vars.ir
  refine vc_cut (At [(0, vVars l)] []) (by simp -dsimp [At, vVars]) ?_
  try clear h
  rintro ⟨sl, hp, bs⟩ ⟨rfl, h⟩
  simp only [sls_cons, sls_one, sls_nil] at h
  refine vc_cut (fun st => ¬ (l.length = 0 ∨ 32 < l.length) ∧ At [(0, vVars l)] [] st) ?_ ?_
  · by_cases l0 : l.length = 0
    · have l0' : (l.length : Int) < 1 := by omega
      have hB : varsB l = (0, 40) := by unfold varsB; rw [if_pos (.inl l0)]
      simp -dsimp [h, l0', vVars, hallmarkref4_vars.rs, hB]
    · have l0' : ¬ (l.length : Int) < 1 := by omega
      by_cases l1 : 32 < l.length
      · have l1' : (32 : Int) < l.length := by omega
        have hB : varsB l = (0, 40) := by unfold varsB; rw [if_pos (.inr l1)]
        simp -dsimp [h, l0', l1', vVars, hallmarkref4_vars.rs, hB]
      · have l1' : ¬ (32 : Int) < l.length := by omega
        simp -dsimp [h, At, l0', l1', l0, l1, vVars]
        try omega
  try clear h
  rintro ⟨sl, hp, bs⟩ ⟨hn, rfl, h⟩
  simp only [sls_cons, sls_one, sls_nil] at h
  have hB : varsB l = match firstBad (varB l) 0 l with | some (i, e) => ((i : Int), e) | none => (0, 0) := by unfold varsB; rw [if_neg hn]
  refine vc_cut (fun st => firstBad (varB l) 0 l = none ∧ At [] [] st) ?_ ?_
  · refine vc_cut (At [(0, vVars l), (4, V.i 0)] []) (by simp -dsimp [h, At, vVars]) ?_
    try clear h
    rintro ⟨sl, hp, bs⟩ ⟨rfl, h⟩
    simp only [sls_cons, sls_one, sls_nil] at h
    refine vc_block_of (vc_upto 0 (by simp) l.length (fun i st => firstBad (varB l) 0 l = firstBad (varB l) i (l.drop i) ∧ At [(0, vVars l), (4, V.i i)] [] st) ⟨rfl, rfl, by simpa using h⟩ ?_)
    clear h
    rintro i ⟨sl, hp, bs⟩ hi ⟨hx, rfl, h⟩
    simp only [sls_cons, sls_one] at h
    unfold hallmarkref4_vars.b0
    by_cases hil : i < l.length
    · have hw : IntKind.i64.wrap ((i : Int) + 1) = ((i + 1 : Nat) : Int) := by rw [wrap64] <;> omega
      rw [firstBad_drop _ hil] at hx
      refine vc_cut (At [(0, vVars l), (4, V.i i)] []) (by simp -dsimp [h, At, hil, vVars]) ?_
      try clear h
      rintro ⟨sl, hp, bs⟩ ⟨rfl, h⟩
      simp only [sls_cons, sls_one, sls_nil] at h
      have hvi := hv _ (List.getElem_mem hil)
      obtain ⟨v, hv'⟩ : ∃ v, v = l[i] := ⟨_, rfl⟩
      rw [← hv'] at hx hvi
      have hbad : ∀ e : Int, e ≠ 0 → varB l i v = e → varsB l = ((i : Int), e) := fun e h0 he => by
        rw [hB, hx, he, if_neg h0]
      refine vc_cut (fun st => varB l i v = 0 ∧ At [(0, vVars l), (4, V.i i)] [] st) ?_ ?_
      · refine vc_block_of ?_
        refine vc_cut (fun st => nameB v.name = true ∧ At [(0, vVars l), (4, V.i i)] [] st) ?_ ?_
        · simp -dsimp [h, hil, vVars, ← hv', Var.cells]
          refine gcall (nameR_spec v.name hvi.1) (by simp -dsimp [h]) (by simp -dsimp [h]) ?_
          cases a : nameB v.name
          · have hb := hbad 41 (by decide) (by unfold varB; rw [a]; rfl)
            simp -dsimp [h, hb, hallmarkref4_vars.rs]
          · simp -dsimp [h, At, vVars]
        try clear h
        rintro ⟨sl, hp, bs⟩ ⟨hnm, rfl, h⟩
        simp only [sls_cons, sls_one, sls_nil] at h
        refine vc_cut (fun st => ((l.take i).any fun w => decide (w.name = v.name)) = false ∧ At [(0, vVars l), (4, V.i i)] [] st) ?_ ?_
        · refine vc_cut (At [(0, vVars l), (4, V.i i), (5, V.i 0)] []) (by simp -dsimp [h, At]) ?_
          try clear h
          rintro ⟨sl, hp, bs⟩ ⟨rfl, h⟩
          simp only [sls_cons, sls_one, sls_nil] at h
          refine vc_block_of (vc_upto 0 (by simp) i (fun k st => ((l.take k).any fun w => decide (w.name = v.name)) = false ∧ At [(0, vVars l), (4, V.i i), (5, V.i k)] [] st) ⟨rfl, rfl, by simpa using h⟩ ?_)
          clear h
          rintro k ⟨sl, hp, bs⟩ hk ⟨hy, rfl, h⟩
          simp only [sls_cons, sls_one] at h
          unfold hallmarkref4_vars.b1
          by_cases hki : k < i
          · have hw : IntKind.i64.wrap ((k : Int) + 1) = ((k + 1 : Nat) : Int) := by rw [wrap64] <;> omega
            have hkl : k < l.length := by omega
            obtain ⟨w, hw'⟩ : ∃ w, w = l[k] := ⟨_, rfl⟩
            refine vc_cut (At [(0, vVars l), (4, V.i i), (5, V.i k)] []) (by simp -dsimp [h, At, hki, vVars]) ?_
            try clear h
            rintro ⟨sl, hp, bs⟩ ⟨rfl, h⟩
            simp only [sls_cons, sls_one, sls_nil] at h
            refine vc_cut (fun st => decide (w.name = v.name) = false ∧ At [(0, vVars l), (4, V.i i), (5, V.i k)] [] st) ?_ ?_
            · refine vc_block_of ?_
              by_cases a : w.name = v.name
              · have hany : ((l.take i).any fun w => decide (w.name = v.name)) = true := List.any_eq_true.2 ⟨w, by rw [hw']; exact List.mem_take_iff_getElem.2 ⟨k, by omega, rfl⟩, by simp [a]⟩
                have hb := hbad 41 (by decide) (by unfold varB; rw [hany]; simp)
                simp -dsimp [h, hkl, hil, vVars, ← hv', ← hw', Var.cells, a, hb, hallmarkref4_vars.rs]
              · have a2 : ¬ w.name.toList = v.name.toList := fun h' => a (byteArray_ext h')
                simp -dsimp [h, At, hkl, hil, vVars, ← hv', ← hw', Var.cells, a, a2]
            try clear h
            rintro ⟨sl, hp, bs⟩ ⟨hb, rfl, h⟩
            simp only [sls_cons, sls_one, sls_nil] at h
            have hx2 : ((l.take (k + 1)).any fun w => decide (w.name = v.name)) = false := by
              rw [anyTake1 hkl, hy, ← hw', hb]; rfl
            rw [hx2]
            simp -dsimp [h, At, hw, hki, vVars]
          · have hki' : k = i := by omega
            subst hki'
            rw [hy]
            simp -dsimp [h, At, vVars]
        try clear h
        rintro ⟨sl, hp, bs⟩ ⟨hany, rfl, h⟩
        simp only [sls_cons, sls_one, sls_nil] at h
        have hb : varB l i v = if !withinB v.lo 1000000000 || !withinB v.hi 1000000000 || decide (v.hi < v.lo) || decide (64 ≤ v.hi - v.lo) then 42 else 0 := by
          unfold varB; rw [hnm, hany]; rfl
        have hbn : (!withinB v.lo 1000000000 || !withinB v.hi 1000000000 || decide (v.hi < v.lo) || decide (64 ≤ v.hi - v.lo)) = !boundsR v.lo v.hi := by
          unfold boundsR
          cases withinB v.lo 1000000000
          · rfl
          · cases withinB v.hi 1000000000
            · rfl
            · rw [Bool.eq_iff_iff]; simp; try omega
        rw [hbn] at hb
        simp -dsimp [h, hil, vVars, ← hv', Var.cells]
        refine gcall (boundsR_spec v.lo v.hi hvi.2.1 hvi.2.2) (by simp -dsimp [h]) (by simp -dsimp [h]) ?_
        cases a : boundsR v.lo v.hi
        · rw [a] at hb
          have hb := hbad 42 (by decide) hb
          simp -dsimp [h, hb, hallmarkref4_vars.rs]
        · rw [a] at hb
          have hb : varB l i v = 0 := hb
          simp -dsimp [h, At, hb, vVars]
      try clear h
      rintro ⟨sl, hp, bs⟩ ⟨hb, rfl, h⟩
      simp only [sls_cons, sls_one, sls_nil] at h
      rw [if_pos hb] at hx
      simp -dsimp [h, At, hw, hil, vVars, hx]
    · have hil' : i = l.length := by omega
      subst hil'
      rw [List.drop_length] at hx
      simp -dsimp [h, At, vVars, hx, firstBad]
  try clear h
  rintro ⟨sl, hp, bs⟩ ⟨hb, rfl, h⟩
  rw [hb] at hB
  simp -dsimp [hB, hallmarkref4_vars.rs]

theorem checkR_spec (m : Model) (hm' : okModel m) : Pf Tryz.prog hallmarkref4_Check.id [.agg m.cells] (.tup [V.i (checkB m).1, V.i (checkB m).2]) := by
  have hM : (maxLen : Int) ≤ 9223372036854775807 := by decide
  obtain ⟨⟨hv, hv'⟩, ⟨hc, hc'⟩, hg, _⟩ := hm'
  refine DC.of hallmarkref4_Check.ok (by simp) ?_
  unfold hallmarkref4_Check.ir
  refine vc_cut (At [(1, .ptr 0 1 0 0)] [.mem false [] [m.cells]]) (by simp -dsimp [At, Model.cells, vVars, vCons, vTerms]) ?_
  try clear h
  rintro ⟨sl, hp, bs⟩ ⟨rfl, h⟩
  simp only [sls_cons, sls_one, sls_nil] at h
  obtain ⟨a, ha⟩ : ∃ a, a = varsB m.vars := ⟨_, rfl⟩
  refine vc_cut (At [(1, .ptr 0 1 0 0), (4, V.i a.1), (5, V.i a.2)] [.mem false [] [m.cells]]) ?_ ?_
  · simp -dsimp [h, Model.cells, vVars, vCons, vTerms]
    refine gcall (varsR_spec m.vars hv hv') (by simp -dsimp [h, vVars]) (by simp -dsimp [h, vVars]) ?_
    simp -dsimp [h, At, ha, Model.cells, vVars, vCons, vTerms]
  try clear h
  rintro ⟨sl, hp, bs⟩ ⟨rfl, h⟩
  simp only [sls_cons, sls_one, sls_nil] at h
  have hne : ∀ (i : Nat) (e : Int), firstBad (varB m.vars) 0 m.vars = some (i, e) → e ≠ 0 := firstBad_ne _ _ _
  refine vc_cut (fun st => (¬ (m.vars.length = 0 ∨ 32 < m.vars.length) ∧ firstBad (varB m.vars) 0 m.vars = none) ∧ At [(1, .ptr 0 1 0 0)] [.mem false [] [m.cells]] st) ?_ ?_
  · by_cases hn : m.vars.length = 0 ∨ 32 < m.vars.length
    · have hA : varsB m.vars = (0, 40) := by unfold varsB; rw [if_pos hn]
      have hC : checkB m = (0, 40) := by unfold checkB; rw [if_pos hn]
      rw [ha, hA] at h
      simp -dsimp [h, hC, hallmarkref4_Check.rs]
    · cases hf : firstBad (varB m.vars) 0 m.vars with
      | none =>
        have hA : varsB m.vars = (0, 0) := by unfold varsB; rw [if_neg hn, hf]
        rw [ha, hA] at h
        simp -dsimp [h, At]
        have : ¬ m.vars = [] := fun e => hn (.inl (by rw [e]; rfl))
        exact ⟨this, by omega⟩
      | some p =>
        obtain ⟨i, e⟩ := p
        have hA : varsB m.vars = ((i : Int), e) := by unfold varsB; rw [if_neg hn, hf]
        have hC : checkB m = ((i : Int), e) := by unfold checkB; rw [if_neg hn, hf]
        rw [ha, hA] at h
        have := hne i e hf
        simp -dsimp [h, hC, this, hallmarkref4_Check.rs]
  try clear h
  rintro ⟨sl, hp, bs⟩ ⟨⟨hn, he1⟩, rfl, h⟩
  simp only [sls_cons, sls_one, sls_nil] at h
  have hn0 : 0 < m.vars.length := by omega
  refine vc_cut (At [(1, .ptr 0 1 0 0), (6, V.i m.vars.length)] [.mem false [] [m.cells]]) (by simp -dsimp [h, At, Model.cells, vVars, vCons, vTerms]) ?_
  try clear h
  rintro ⟨sl, hp, bs⟩ ⟨rfl, h⟩
  simp only [sls_cons, sls_one, sls_nil] at h
  refine vc_cut (fun st => ¬ 64 < m.cons.length ∧ At [(1, .ptr 0 1 0 0), (6, V.i m.vars.length)] [.mem false [] [m.cells]] st) ?_ ?_
  · by_cases l1 : 64 < m.cons.length
    · have l1' : (64 : Int) < m.cons.length := by omega
      have hC : checkB m = ((m.vars.length : Int), 49) := by unfold checkB; rw [if_neg hn, he1]; simp only; rw [if_pos l1]
      simp -dsimp [h, hC, l1', Model.cells, vVars, vCons, vTerms, hallmarkref4_Check.rs]
    · have l1' : ¬ (64 : Int) < m.cons.length := by omega
      simp -dsimp [h, At, l1', l1, Model.cells, vVars, vCons, vTerms]
  try clear h
  rintro ⟨sl, hp, bs⟩ ⟨hn2, rfl, h⟩
  simp only [sls_cons, sls_one, sls_nil] at h
  refine vc_cut (fun st => firstBad (fun _ c => conB c m.vars.length) 0 m.cons = none ∧ At [(1, .ptr 0 1 0 0), (6, V.i m.vars.length)] [.mem false [] [m.cells]] st) ?_ ?_
  · refine vc_cut (At [(1, .ptr 0 1 0 0), (6, V.i m.vars.length), (7, V.i 0)] [.mem false [] [m.cells]]) (by simp -dsimp [h, At]) ?_
    try clear h
    rintro ⟨sl, hp, bs⟩ ⟨rfl, h⟩
    simp only [sls_cons, sls_one, sls_nil] at h
    refine vc_block_of (vc_upto 1 (by simp) m.cons.length (fun i st => firstBad (fun _ c => conB c m.vars.length) 0 m.cons = firstBad (fun _ c => conB c m.vars.length) i (m.cons.drop i) ∧ At [(1, .ptr 0 1 0 0), (6, V.i m.vars.length), (7, V.i i)] [.mem false [] [m.cells]] st) ⟨rfl, rfl, by simpa using h⟩ ?_)
    clear h
    rintro i ⟨sl, hp, bs⟩ hi ⟨hx, rfl, h⟩
    simp only [sls_cons, sls_one] at h
    unfold hallmarkref4_Check.b0
    by_cases hil : i < m.cons.length
    · have hw : IntKind.i64.wrap ((i : Int) + 1) = ((i + 1 : Nat) : Int) := by rw [wrap64] <;> omega
      have hw2 : IntKind.i64.wrap ((m.vars.length : Int) + i) = m.vars.length + i := by rw [wrap64] <;> omega
      rw [firstBad_drop _ hil] at hx
      refine vc_cut (At [(1, .ptr 0 1 0 0), (6, V.i m.vars.length), (7, V.i i)] [.mem false [] [m.cells]]) (by simp -dsimp [h, At, hil, Model.cells, vVars, vCons, vTerms]) ?_
      try clear h
      rintro ⟨sl, hp, bs⟩ ⟨rfl, h⟩
      simp only [sls_cons, sls_one, sls_nil] at h
      have hci := hc' _ (List.getElem_mem hil)
      obtain ⟨c, hcc⟩ : ∃ c, c = m.cons[i] := ⟨_, rfl⟩
      rw [← hcc] at hx hci
      refine vc_cut (fun st => conB c m.vars.length = 0 ∧ At [(1, .ptr 0 1 0 0), (6, V.i m.vars.length), (7, V.i i)] [.mem false [] [m.cells]] st) ?_ ?_
      · refine vc_block_of ?_
        refine vc_cut (At [(1, .ptr 0 1 0 0), (5, V.i (conB c m.vars.length)), (6, V.i m.vars.length), (7, V.i i)] [.mem false [] [m.cells]]) ?_ ?_
        · simp -dsimp [h, hil, ← hcc, Model.cells, vVars, vCons, vTerms, Con.cells, vInts, vIntss]
          refine gcall (conR_spec c m.vars.length (by omega) hci) (by simp -dsimp [h, vVars, vCons, vTerms, Con.cells, vInts, vIntss]) (by simp -dsimp [h, Con.cells, vTerms, vInts, vIntss]) ?_
          simp -dsimp [h, At, Model.cells, vVars, vCons, vTerms, Con.cells, vInts, vIntss]
        try clear h
        rintro ⟨sl, hp, bs⟩ ⟨rfl, h⟩
        simp only [sls_cons, sls_one, sls_nil] at h
        by_cases hb : conB c m.vars.length = 0
        · simp -dsimp [h, At, hb]
        · rw [if_neg hb] at hx
          have hC : checkB m = ((m.vars.length : Int) + i, conB c m.vars.length) := by unfold checkB; rw [if_neg hn, he1]; simp only; rw [if_neg hn2, hx]
          simp -dsimp [h, hb, hC, hw2, hallmarkref4_Check.rs]
      try clear h
      rintro ⟨sl, hp, bs⟩ ⟨hb, rfl, h⟩
      simp only [sls_cons, sls_one, sls_nil] at h
      rw [if_pos hb] at hx
      simp -dsimp [h, At, hw, hil, hx, Model.cells, vVars, vCons, vTerms]
    · have hil' : i = m.cons.length := by omega
      subst hil'
      rw [List.drop_length] at hx
      simp -dsimp [h, At, hx, firstBad, Model.cells, vVars, vCons, vTerms]
  try clear h
  rintro ⟨sl, hp, bs⟩ ⟨he2, rfl, h⟩
  simp only [sls_cons, sls_one, sls_nil] at h
  have hw2 : IntKind.i64.wrap ((m.vars.length : Int) + m.cons.length) = m.vars.length + m.cons.length := by rw [wrap64] <;> omega
  have hC : checkB m = if goalB m = 0 then (0, 0) else ((m.vars.length : Int) + m.cons.length, goalB m) := by
    unfold checkB; rw [if_neg hn, he1]; simp only; rw [if_neg hn2, he2]
  have hG : m.hasGoal = true → goalB m = if manyB m.goal.length then 47 else termsR m.goal m.vars.length := fun e => by
    unfold goalB termsR manyB countsB
    rw [e]
    by_cases g1 : m.goal.length < 1
    · have : ¬ 1 ≤ m.goal.length := by omega
      simp [g1, this]
    · by_cases g2 : 64 < m.goal.length
      · have : ¬ m.goal.length ≤ 64 := by omega
        simp [g2, this]
      · have h1 : 1 ≤ m.goal.length := by omega
        have h2 : m.goal.length ≤ 64 := by omega
        simp only [g1, g2, h1, h2]
        simp
  refine vc_cut (At [(1, .ptr 0 1 0 0), (4, V.i (m.vars.length + m.cons.length)), (6, V.i m.vars.length)] [.mem false [] [m.cells]]) (by simp -dsimp [h, At, hw2, Model.cells, vVars, vCons, vTerms]) ?_
  try clear h
  rintro ⟨sl, hp, bs⟩ ⟨rfl, h⟩
  simp only [sls_cons, sls_one, sls_nil] at h
  refine vc_cut (fun st => m.hasGoal = true ∧ At [(1, .ptr 0 1 0 0), (4, V.i (m.vars.length + m.cons.length)), (6, V.i m.vars.length)] [.mem false [] [m.cells]] st) ?_ ?_
  · cases hgo : m.hasGoal
    · by_cases hgl : 0 < m.goal.length
      · have hgl' : (0 : Int) < m.goal.length := by omega
        have hb : goalB m = 48 := by unfold goalB; rw [hgo]; simp [hgl]
        rw [hb, if_neg (by decide)] at hC
        simp -dsimp [h, hgo, hgl, hC, Model.cells, vVars, vCons, vTerms, hallmarkref4_Check.rs]
      · have hg0 : m.goal = [] := List.length_eq_zero_iff.1 (by omega)
        have hb : goalB m = 0 := by unfold goalB; rw [hgo, hg0]; rfl
        rw [hb, if_pos rfl] at hC
        simp -dsimp [h, hgo, hg0, hC, Model.cells, vVars, vCons, vTerms, hallmarkref4_Check.rs]
    · simp -dsimp [h, At, hgo, Model.cells, vVars, vCons, vTerms]
  try clear h
  rintro ⟨sl, hp, bs⟩ ⟨hgo, rfl, h⟩
  simp only [sls_cons, sls_one, sls_nil] at h
  replace hG := hG hgo
  refine vc_cut (fun st => manyB m.goal.length = false ∧ At [(1, .ptr 0 1 0 0), (4, V.i (m.vars.length + m.cons.length)), (6, V.i m.vars.length)] [.mem false [] [m.cells]] st) ?_ ?_
  · simp -dsimp [h, Model.cells, vVars, vCons, vTerms]
    refine gcall (manyR_spec m.goal.length) (by simp -dsimp [h]) (by simp -dsimp [h]) ?_
    cases a : manyB m.goal.length
    · simp -dsimp [h, At, a, Model.cells, vVars, vCons, vTerms]
    · rw [a] at hG
      rw [hG, if_pos rfl, if_neg (by decide)] at hC
      simp -dsimp [h, hC, hallmarkref4_Check.rs]
  try clear h
  rintro ⟨sl, hp, bs⟩ ⟨hmn, rfl, h⟩
  simp only [sls_cons, sls_one, sls_nil] at h
  rw [hmn, if_neg (by simp)] at hG
  rw [hG] at hC
  refine vc_cut (At [(4, V.i (m.vars.length + m.cons.length)), (5, V.i (termsR m.goal m.vars.length))] [.mem false [] [m.cells]]) ?_ ?_
  · simp -dsimp [h, Model.cells, vVars, vCons, vTerms]
    refine gcall (termsR_spec m.goal m.vars.length hg) (by simp -dsimp [h, vTerms]) (by simp -dsimp [h, vTerms]) ?_
    simp -dsimp [h, At, Model.cells, vVars, vCons, vTerms]
  try clear h
  rintro ⟨sl, hp, bs⟩ ⟨rfl, h⟩
  simp only [sls_cons, sls_one, sls_nil] at h
  by_cases e : termsR m.goal m.vars.length = 0
  · rw [if_pos e] at hC
    simp -dsimp [h, e, hC, hallmarkref4_Check.rs]
  · rw [if_neg e] at hC
    simp -dsimp [h, e, hC, hallmarkref4_Check.rs]
end Go.Abs.G

namespace Go.Abs.G
open Go.Proofs
set_option linter.unusedVariables false
set_option linter.unusedSimpArgs false

def rangeR (v : Var) : List Int := (List.range (v.hi - v.lo + 1).toNat).map fun (i : Nat) => v.lo + (i : Int)
def refOf (m : Model) : List (List Int) := if (checkB m).2 = 0 then m.vars.map rangeR else []
def RN (B : O) (D : List (List V)) : Heap := [B, .mem false [2, 3] [[.own 2 1 0 D.length D.length, .own 3 1 0 0 0]], .mem false [] D, .mem false [] []]

def runR (lo : Int) (n : Nat) : List Int := (List.range n).map fun (i : Nat) => lo + (i : Int)
theorem runR_succ (lo : Int) (n : Nat) : runR lo (n + 1) = runR lo n ++ [lo + n] := by simp [runR, List.range_succ]
@[simp] theorem runR_len (lo : Int) (n : Nat) : (runR lo n).length = n := by simp [runR]
theorem newR_open (m : Model) (hm : okModel m) : DC Tryz.prog hallmarkref11_New.id [.agg m.cells] [] (fun r H => r = .ptr 1 1 0 0 ∧ ∃ E, H = RN (.mem false [] [m.cells]) (dR (refOf m)) ++ E) := by
  have hc := checkR_spec m hm
  refine DC.of hallmarkref11_New.ok (by simp) ?_
  unfold hallmarkref11_New.ir
  obtain ⟨B, hB⟩ : ∃ B, B = O.mem false [] [m.cells] := ⟨_, rfl⟩
  rw [← hB]
  refine vc_cut (At [(1, .ptr 0 1 0 0)] [B]) (by simp -dsimp [At, hB, Model.cells, vVars, vCons, vTerms]) ?_
  try clear h
  rintro ⟨sl, hp, bs⟩ ⟨rfl, h⟩
  simp only [sls_cons, sls_one, sls_nil] at h
  refine vc_cut (At [(1, .ptr 0 1 0 0), (3, .ptr 1 1 0 0)] [B, .mem false [] [[nilS, nilS]]]) (by simp -dsimp [h, At, hB]) ?_
  try clear h
  rintro ⟨sl, hp, bs⟩ ⟨rfl, h⟩
  simp only [sls_cons, sls_one, sls_nil] at h
  obtain ⟨c2, hc2⟩ : ∃ c2, c2 = (checkB m).2 := ⟨_, rfl⟩
  refine vc_cut (At [(1, .ptr 0 1 0 0), (3, .ptr 1 1 0 0), (5, V.i c2)] (RN B [])) ?_ ?_
  · simp -dsimp [h]
    refine ⟨_, Weak.nil2m (id := 1) (e1 := 1) (e2 := 1) (t := 3) (by simp -dsimp) (by simp -dsimp [h]), ?_⟩
    simp -dsimp [h, hB, Model.cells, vVars, vCons, vTerms]
    refine gcall hc (by simp -dsimp [h, Model.cells, vVars, vCons, vTerms]) (by simp -dsimp [h, Model.cells, vVars, vCons, vTerms]) ?_
    simp -dsimp [h, At, RN, hc2, hB, Model.cells, vVars, vCons, vTerms]
  try clear h
  rintro ⟨sl, hp, bs⟩ ⟨rfl, h⟩
  simp only [sls_cons, sls_one, sls_nil] at h
  refine vc_cut (At [(3, .ptr 1 1 0 0)] (RN B (dR (refOf m)))) ?_ ?_
  · refine vc_cut (At [(1, .ptr 0 1 0 0), (3, .ptr 1 1 0 0), (5, V.i c2), (6, V.i 0)] (RN B [])) (by simp -dsimp [h, At]) ?_
    try clear h
    rintro ⟨sl, hp, bs⟩ ⟨rfl, h⟩
    simp only [sls_cons, sls_one, sls_nil] at h
    by_cases hz : c2 = 0
    · subst hz
      have hR : refOf m = m.vars.map rangeR := by unfold refOf; rw [if_pos hc2.symm]
      have hRt : Right m := right_iff.1 (by simp [rightB, ← hc2])
      rw [hR]
      have hnv := hRt.nv
      refine vc_block_of (vc_upto 4 (by simp [RN]) m.vars.length (fun j st => At [(1, .ptr 0 1 0 0), (3, .ptr 1 1 0 0), (5, V.i 0), (6, V.i j)] (RN B (dR ((m.vars.take j).map rangeR))) st) ⟨rfl, by simpa using h⟩ ?_)
      clear h
      rintro j ⟨sl, hp, bs⟩ hj ⟨rfl, h⟩
      simp only [sls_cons, sls_one] at h
      unfold hallmarkref11_New.b0
      by_cases hjl : j < m.vars.length
      · have hvo := VarOk.of (hRt.var j _ (List.getElem?_eq_getElem hjl))
        obtain ⟨v, hv⟩ : ∃ v, v = m.vars[j] := ⟨_, rfl⟩
        rw [← hv] at hvo
        obtain ⟨b1, b2, b3, b4⟩ := hvo
        have b5 : v.lo ≤ v.hi := by omega
        have hw : IntKind.i64.wrap ((j : Int) + 1) = ((j + 1 : Nat) : Int) := by rw [wrap64] <;> omega
        obtain ⟨L, hL⟩ : ∃ L, L = dR ((m.vars.take j).map rangeR) := ⟨_, rfl⟩
        have hLl : L.length = j := by rw [hL, dR_len, List.length_map, List.length_take]; omega
        have hT : dR ((m.vars.take (j + 1)).map rangeR) = L ++ [[vInts (rangeR v)]] := by
          rw [List.take_succ_eq_append_getElem hjl, List.map_append, hL, dR, dR, List.map_append, ← hv]; rfl
        rw [← hL]
        refine vc_cut (At [(1, .ptr 0 1 0 0), (3, .ptr 1 1 0 0), (5, V.i 0), (6, V.i j)] (RN B L)) (by simp -dsimp [h, At, RN, hB, hjl, Model.cells, vVars, vCons, vTerms]) ?_
        try clear h
        rintro ⟨sl, hp, bs⟩ ⟨rfl, h⟩
        simp only [sls_cons, sls_one, sls_nil] at h
        rw [hT]
        refine vc_cut (fun st => ∃ E, At [(1, .ptr 0 1 0 0), (3, .ptr 1 1 0 0), (5, V.i 0), (6, V.i j)] (RN B (L ++ [[vInts (rangeR v)]]) ++ E) st) ?_ ?_
        · refine vc_block_of ?_
          refine vc_cut (At [(1, .ptr 0 1 0 0), (3, .ptr 1 1 0 0), (5, V.i 0), (6, V.i j), (7, nilS)] (RN B L)) (by simp -dsimp [h, At]) ?_
          try clear h
          rintro ⟨sl, hp, bs⟩ ⟨rfl, h⟩
          simp only [sls_cons, sls_one, sls_nil] at h
          refine vc_cut (At [(1, .ptr 0 1 0 0), (3, .ptr 1 1 0 0), (5, V.i 0), (6, V.i j), (7, .own 5 1 0 (rangeR v).length (rangeR v).length)] (RN B L ++ [.res, .mem false [] ((rangeR v).map fun n => [V.i n])])) ?_ ?_
          · refine vc_cut (At [(1, .ptr 0 1 0 0), (3, .ptr 1 1 0 0), (5, V.i 0), (6, V.i j), (7, nilS), (8, V.i v.lo)] (RN B L)) (by simp -dsimp [h, At, RN, hB, hjl, ← hv, Model.cells, vVars, vCons, vTerms, Var.cells]) ?_
            try clear h
            rintro ⟨sl, hp, bs⟩ ⟨rfl, h⟩
            simp only [sls_cons, sls_one, sls_nil] at h
            obtain ⟨n, hn⟩ : ∃ n : Nat, n = (v.hi - v.lo + 1).toNat := ⟨_, rfl⟩
            have hrg : rangeR v = runR v.lo n := by unfold rangeR runR; rw [hn]
            rw [hrg, runR_len]
            refine vc_block_of (vc_upto 6 (by simp [RN]) n (fun i st => (i = 0 ∧ At [(1, .ptr 0 1 0 0), (3, .ptr 1 1 0 0), (5, V.i 0), (6, V.i j), (7, nilS), (8, V.i (v.lo + i))] (RN B L) st) ∨ At [(1, .ptr 0 1 0 0), (3, .ptr 1 1 0 0), (5, V.i 0), (6, V.i j), (7, .own 5 1 0 i i), (8, V.i (v.lo + i))] (RN B L ++ [.res, .mem false [] ((runR v.lo i).map fun n => [V.i n])]) st) (.inl ⟨rfl, rfl, by simpa using h⟩) ?_)
            clear h
            rintro i ⟨sl, hp, bs⟩ hi hh
            unfold hallmarkref11_New.b1
            by_cases hil : i < n
            · have hle : v.lo + i ≤ v.hi := by omega
              have hw2 : IntKind.i64.wrap (v.lo + (i : Int) + 1) = v.lo + ((i + 1 : Nat) : Int) := by rw [wrap64] <;> omega
              have hr1 := runR_succ v.lo i
              rcases hh with ⟨rfl, rfl, h⟩ | ⟨rfl, h⟩ <;> simp only [sls_cons, sls_one] at h
              · refine vc_cut (At [(1, .ptr 0 1 0 0), (3, .ptr 1 1 0 0), (5, V.i 0), (6, V.i j), (7, nilS), (8, V.i v.lo)] (RN B L)) (by simp -dsimp [h, At, RN, hB, hjl, b5, ← hv, Model.cells, vVars, vCons, vTerms, Var.cells]) ?_
                try clear h
                rintro ⟨sl, hp, bs⟩ ⟨rfl, h⟩
                simp only [sls_cons, sls_one, sls_nil] at h
                refine vc_cut (At [(1, .ptr 0 1 0 0), (3, .ptr 1 1 0 0), (5, V.i 0), (6, V.i j), (7, .own 5 1 0 1 1), (8, V.i v.lo)] (RN B L ++ [.res, .mem false [] [[V.i v.lo]]])) (by simp -dsimp [h, At, RN]) ?_
                try clear h
                rintro ⟨sl, hp, bs⟩ ⟨rfl, h⟩
                simp only [sls_cons, sls_one, sls_nil] at h
                have hw3 : IntKind.i64.wrap (v.lo + 1) = v.lo + 1 := by rw [wrap64] <;> omega
                have hr2 : runR v.lo 1 = [v.lo] := by simp [runR]
                simp -dsimp [h, At, RN, hw3, hil, limO, O.refs, hB, hr2]
              · refine vc_cut (At [(1, .ptr 0 1 0 0), (3, .ptr 1 1 0 0), (5, V.i 0), (6, V.i j), (7, .own 5 1 0 i i), (8, V.i (v.lo + i))] (RN B L ++ [.res, .mem false [] ((runR v.lo i).map fun n => [V.i n])])) (by simp -dsimp [h, At, RN, hB, hjl, hle, ← hv, Model.cells, vVars, vCons, vTerms, Var.cells]) ?_
                try clear h
                rintro ⟨sl, hp, bs⟩ ⟨rfl, h⟩
                simp only [sls_cons, sls_one, sls_nil] at h
                refine vc_cut (fun st => ∃ E, At [(1, .ptr 0 1 0 0), (3, .ptr 1 1 0 0), (5, V.i 0), (6, V.i j), (7, .own 5 1 0 (i + 1) (i + 1)), (8, V.i (v.lo + i))] (RN B L ++ .res :: .mem false [] ((runR v.lo (i + 1)).map fun n => [V.i n]) :: E) st) ?_ ?_
                · rw [hr1]
                  simp -dsimp [h, At, RN]
                  omega
                rintro ⟨sl, hp, bs⟩ ⟨E, rfl, h⟩; simp only [sls_cons, sls_one] at h
                simp -dsimp [h, At, RN, hw2, hil, limO, O.refs, hB]
            · have hle : ¬ v.lo + i ≤ v.hi := by omega
              have hin : i = n := by omega
              subst hin
              rcases hh with ⟨rfl, rfl, h⟩ | ⟨rfl, h⟩ <;> simp only [sls_cons, sls_one] at h
              · omega
              · simp -dsimp [h, At, RN, hB, hjl, hle, ← hv, Model.cells, vVars, vCons, vTerms, Var.cells]
          try clear h
          rintro ⟨sl, hp, bs⟩ ⟨rfl, h⟩
          simp only [sls_cons, sls_one, sls_nil] at h
          have hrl : (rangeR v).length = (v.hi - v.lo + 1).toNat := by simp [rangeR]
          have t2 : List.take (rangeR v).length ((rangeR v).map fun n => [V.i n]) = (rangeR v).map fun n => [V.i n] := List.take_of_length_le (by simp)
          simp -dsimp [h, At, RN, t2, hLl]
          exact ⟨by omega, rfl⟩
        rintro ⟨sl, hp, bs⟩ ⟨E, rfl, h⟩; simp only [sls_cons, sls_one] at h
        simp -dsimp [h, At, hjl, hw, RN, limO, O.refs, hB]
      · have hil' : j = m.vars.length := by omega
        subst hil'
        rw [List.take_length]
        simp -dsimp [h, At, RN, hB, Model.cells, vVars, vCons, vTerms]
    · have : refOf m = [] := by unfold refOf; rw [if_neg (by rw [← hc2]; exact hz)]
      rw [this]
      refine vc_block_of (vc_upto 4 (by simp [RN]) 0 (fun i st => At [(1, .ptr 0 1 0 0), (3, .ptr 1 1 0 0), (5, V.i c2), (6, V.i 0)] (RN B []) st) ⟨rfl, by simpa using h⟩ ?_)
      clear h
      rintro i ⟨sl, hp, bs⟩ hi ⟨rfl, h⟩
      simp only [sls_cons, sls_one] at h
      unfold hallmarkref11_New.b0
      by_cases hv : 0 < m.vars.length
      · simp -dsimp [h, At, RN, hB, hv, hz, Model.cells, vVars, vCons, vTerms]
        rfl
      · simp -dsimp [h, At, RN, hB, hv, hz, Model.cells, vVars, vCons, vTerms]
        rfl
  try clear h
  rintro ⟨sl, hp, bs⟩ ⟨rfl, h⟩
  simp only [sls_cons, sls_one, sls_nil] at h
  simp -dsimp [h, hallmarkref11_New.rs]

theorem newRP (m : Model) (hm : okModel m) : DC Tryz.prog hallmarkref11_New.id [.agg m.cells] [] (fun r H => r = .ptr 0 1 0 0 ∧ H = [RR (refOf m) []]) := by
  refine DC.picks (Q := fun r H => r = .ptr 1 1 0 0 ∧ H[1]? = some (RR (refOf m) [])) ?_ ?_
  rotate_left
  · rintro r H ⟨rfl, h1⟩
    refine ⟨[1], ⟨by simp, fun i hi => ?_, fun i hi => ?_, fun i hi k hk => ?_⟩, by simp, by simp [V.ids], rfl, ?_⟩
    · simp only [List.mem_cons, List.not_mem_nil, or_false] at hi; subst hi; exact lt_of_get h1
    · simp only [List.mem_cons, List.not_mem_nil, or_false] at hi; subst hi; rw [getD_some h1]; simp [RR, R1]
    · simp only [List.mem_cons, List.not_mem_nil, or_false] at hi; subst hi; rw [getD_some h1] at hk; cases hk
    · simp only [sub, List.map_cons, List.map_nil, getD_some h1, RR_ren]
  refine DC.post' (newR_open m hm) ?_
  rintro x H1 ⟨rfl, E, rfl⟩ w β F vs hk hrv
  obtain ⟨β1, H2, a1, g1, l1, s1⟩ := close_R (p := 1) (a := 2) (b := 3) (D := dR (refOf m)) (M := mR []) hk rfl rfl rfl (fl_dR _) (fl_mR _) (by simp) (by simp) (by simp) (lo_arg (i := 0) hrv rfl rfl)
  exact ⟨β1, H2, a1, rfl, g1⟩
end Go.Abs.G

namespace Go.Abs.G
open Go.Proofs
set_option linter.unusedVariables false
set_option linter.unusedSimpArgs false

@[simp ↓ high] theorem St1_tree (s : List Dom) (T : List (List Ce)) : (St1 s T).isTree = true := rfl
@[simp ↓ high] theorem St1_trows (s : List Dom) (T : List (List Ce)) : (St1 s T).trows = 1 := rfl
@[simp ↓ high] theorem St1_isMem (s : List Dom) (T : List (List Ce)) : (St1 s T).isMem = false := rfl
@[simp ↓ high] theorem St1_refs (s : List Dom) (T : List (List Ce)) : (St1 s T).refs = [] := rfl
@[simp ↓ high] theorem St1_lim' (n : Nat) (s : List Dom) (T : List (List Ce)) : limO n (St1 s T) = St1 s T := St1_lim n s T
@[simp ↓ high] theorem St1_ren (f : Nat → Nat) (s : List Dom) (ms : List (List Dom)) : O.ren f (St1 s (mT ms)) = St1 s (mT ms) := by
  simp [St1, O.ren, Ce.renR, Ce.renL, Ce.ren, domCe_ren, mT_ren]
@[simp] theorem St1_clo (s : List Dom) (ms : List (List Dom)) : (St1 s (mT ms)).clo := ⟨rfl, fun f => St1_ren f s ms, fun e => by cases e⟩

theorem sameInts_spec (a b : List Int) (ha : a.length ≤ maxLen) : Pf Tryz.prog hallmarklaw11_sameInts.id [vInts a, vInts b] (.bool (decide (a = b))) := by
  have hM : (maxLen : Int) ≤ 9223372036854775807 := by decide
  refine DC.of hallmarklaw11_sameInts.ok (by simp) ?_
  unfold hallmarklaw11_sameInts.ir
  refine vc_cut (At [(0, vInts a), (1, vInts b)] []) (by simp -dsimp [At]) ?_
  try clear h
  rintro ⟨sl, hp, bs⟩ ⟨rfl, h⟩
  simp only [sls_cons, sls_one, sls_nil] at h
  refine vc_cut (fun st => a.length = b.length ∧ At [(0, vInts a), (1, vInts b)] [] st) ?_ ?_
  · by_cases hl : a.length = b.length
    · simp -dsimp [h, At, hl, vInts]
    · have hl' : ¬ (a.length : Int) = b.length := by omega
      have hne : a ≠ b := fun e => hl (by rw [e])
      simp -dsimp [h, hl, hl', vInts, hallmarklaw11_sameInts.rs, hne]
  try clear h
  rintro ⟨sl, hp, bs⟩ ⟨hl, rfl, h⟩
  simp only [sls_cons, sls_one, sls_nil] at h
  refine vc_cut (fun st => a = b ∧ st.hp = []) ?_ ?_
  · refine vc_cut (At [(0, vInts a), (1, vInts b), (5, V.i 0)] []) (by simp -dsimp [h, At]) ?_
    try clear h
    rintro ⟨sl, hp, bs⟩ ⟨rfl, h⟩
    simp only [sls_cons, sls_one, sls_nil] at h
    refine vc_block_of (vc_upto 0 (by simp) a.length (fun i st => (∀ j, j < i → a[j]? = b[j]?) ∧ At [(0, vInts a), (1, vInts b), (5, V.i i)] [] st) ⟨by simp, rfl, by simpa using h⟩ ?_)
    clear h
    rintro i ⟨sl, hp, bs⟩ hi ⟨hx, rfl, h⟩
    simp only [sls_cons, sls_one] at h
    unfold hallmarklaw11_sameInts.b0
    by_cases hil : i < a.length
    · have hw : IntKind.i64.wrap ((i : Int) + 1) = ((i + 1 : Nat) : Int) := by rw [wrap64] <;> omega
      have hil' : i < b.length := by omega
      refine vc_cut (At [(0, vInts a), (1, vInts b), (5, V.i i)] []) (by simp -dsimp [h, At, hil, vInts]) ?_
      try clear h
      rintro ⟨sl, hp, bs⟩ ⟨rfl, h⟩
      simp only [sls_cons, sls_one, sls_nil] at h
      refine vc_cut (fun st => a[i]? = b[i]? ∧ At [(0, vInts a), (1, vInts b), (5, V.i i)] [] st) ?_ ?_
      · refine vc_block_of ?_
        by_cases he : a[i] = b[i]
        · simp -dsimp [h, At, vInts, hil, hil', he]
        · have hne : a ≠ b := fun e => he (by subst e; rfl)
          simp -dsimp [h, vInts, hil, hil', he, hallmarklaw11_sameInts.rs, hne]
      try clear h
      rintro ⟨sl, hp, bs⟩ ⟨he, rfl, h⟩
      simp only [sls_cons, sls_one, sls_nil] at h
      simp -dsimp [h, At, hw, hil, vInts]
      intro j hj
      by_cases hji : j = i
      · rw [hji]; exact he
      · exact hx j (by omega)
    · have hil' : i = a.length := by omega
      subst hil'
      simp -dsimp [h, vInts]
      apply List.ext_getElem?
      intro j
      by_cases hj : j < a.length
      · exact hx j hj
      · rw [List.getElem?_eq_none (by omega), List.getElem?_eq_none (by omega)]
  · rintro ⟨sl, hp, bs⟩ ⟨rfl, rfl⟩
    simp -dsimp [hallmarklaw11_sameInts.rs]

def conS (c : Con) : Prop := c.terms.length ≤ 65536 ∧ c.xs.length ≤ 65536 ∧ c.table.length ≤ 65536

theorem light_spec (m : Model) (hm : zModel m) : DP Tryz.prog hallmarklaw11_light.id [.agg m.cells] fun r => ∃ b, r = .bool b ∧ (b = true → ∀ c ∈ m.cons, conS c) := by
  have hM : (maxLen : Int) ≤ 9223372036854775807 := by decide
  have hS : (maxS : Int) = 17592186044416 := rfl
  have hB : (reachBytes : Int) = 140737488351232 := rfl
  obtain ⟨⟨⟨v1, v2⟩, ⟨c1, c2⟩, g1⟩, z1, z2, z3, z4, z5⟩ := hm
  refine DC.of hallmarklaw11_light.ok (by simp) ?_
  unfold hallmarklaw11_light.ir
  refine vc_cut (At [(1, .ptr 0 1 0 0)] [.mem false [] [m.cells]]) (by simp -dsimp [At, Model.cells, vVars, vCons, vTerms]) ?_
  try clear h
  rintro ⟨sl, hp, bs⟩ ⟨rfl, h⟩
  simp only [sls_cons, sls_one, sls_nil] at h
  refine vc_cut (At [(1, .ptr 0 1 0 0), (3, V.i 0)] [.mem false [] [m.cells]]) (by simp -dsimp [At, h]) ?_
  try clear h
  rintro ⟨sl, hp, bs⟩ ⟨rfl, h⟩
  simp only [sls_cons, sls_one, sls_nil] at h
  refine vc_cut (fun st => ∃ n : Int, 0 ≤ n ∧ n ≤ 100000000000000 ∧ (n ≤ 65536 → ∀ c ∈ m.cons, conS c) ∧ At [(1, .ptr 0 1 0 0), (3, V.i n)] [.mem false [] [m.cells]] st) ?_ ?_
  · refine vc_cut (At [(1, .ptr 0 1 0 0), (3, V.i 0), (4, V.i 0)] [.mem false [] [m.cells]]) (by simp -dsimp [At, h]) ?_
    try clear h
    rintro ⟨sl, hp, bs⟩ ⟨rfl, h⟩
    simp only [sls_cons, sls_one, sls_nil] at h
    refine vc_block_of (vc_upto 1 (by simp) m.cons.length (fun i st => ∃ n : Int, 0 ≤ n ∧ n ≤ 100000000000000 ∧ (n ≤ 65536 → ∀ j c, j < i → m.cons[j]? = some c → conS c) ∧ At [(1, .ptr 0 1 0 0), (3, V.i n), (4, V.i i)] [.mem false [] [m.cells]] st) ⟨0, by omega, by omega, fun _ j c hj => by omega, rfl, by simpa using h⟩ ?_)
    clear h
    rintro i ⟨sl, hp, bs⟩ hi ⟨n, n0, n1, hn2, rfl, h⟩
    simp only [sls_cons, sls_one] at h
    unfold hallmarklaw11_light.b0
    by_cases hil : i < m.cons.length
    · have hw : IntKind.i64.wrap ((i : Int) + 1) = ((i + 1 : Nat) : Int) := by rw [wrap64] <;> omega
      obtain ⟨c, hc⟩ : ∃ c, c = m.cons[i] := ⟨_, rfl⟩
      have hok := z5 _ (List.getElem_mem hil)
      rw [← hc] at hok
      obtain ⟨_, t1, x1, b1, _⟩ := hok
      by_cases hn : n ≤ 65536
      · have w1 : IntKind.i64.wrap (n + c.terms.length) = n + c.terms.length := by rw [wrap64] <;> omega
        have w2 : IntKind.i64.wrap (n + c.terms.length + c.xs.length) = n + c.terms.length + c.xs.length := by rw [wrap64] <;> omega
        have w3 : IntKind.i64.wrap (n + c.terms.length + c.xs.length + c.table.length) = n + c.terms.length + c.xs.length + c.table.length := by rw [wrap64] <;> omega
        refine vc_cut (At [(1, .ptr 0 1 0 0), (3, V.i n), (4, V.i i)] [.mem false [] [m.cells]]) (by simp -dsimp [h, At, hil, hn, Model.cells, vVars, vCons, vTerms]) ?_
        try clear h
        rintro ⟨sl, hp, bs⟩ ⟨rfl, h⟩
        simp only [sls_cons, sls_one, sls_nil] at h
        refine vc_cut (At [(1, .ptr 0 1 0 0), (3, V.i (n + c.terms.length + c.xs.length + c.table.length)), (4, V.i i)] [.mem false [] [m.cells]]) (by simp -dsimp [h, At, hil, ← hc, Model.cells, vVars, vCons, vTerms, Con.cells, vInts, w1, w2, w3]) ?_
        try clear h
        rintro ⟨sl, hp, bs⟩ ⟨rfl, h⟩
        simp only [sls_cons, sls_one, sls_nil] at h
        simp -dsimp [h, At, hw, hil, Model.cells, vVars, vCons, vTerms]
        refine ⟨_, by omega, by omega, fun hle j c' hj hc' => ?_, rfl⟩
        by_cases hji : j = i
        · subst hji
          rw [List.getElem?_eq_getElem hil, ← hc] at hc'
          cases hc'
          exact ⟨by omega, by omega, by omega⟩
        · exact hn2 hn j c' (by omega) hc'
      · simp -dsimp [h, At, hil, hn, Model.cells, vVars, vCons, vTerms]
        exact ⟨n, n0, n1, fun e => absurd e hn, rfl⟩
    · have hil' : i = m.cons.length := by omega
      subst hil'
      simp -dsimp [h, At, Model.cells, vVars, vCons, vTerms]
      refine ⟨n, n0, n1, fun e c hc => ?_, rfl⟩
      obtain ⟨j, hj⟩ := List.getElem?_of_mem hc
      exact hn2 e j c (lt_of_get hj) hj
  rintro ⟨sl, hp, bs⟩ ⟨n, n0, n1, hn2, rfl, h⟩
  simp only [sls_cons, sls_one] at h
  refine vc_cut (fun st => ∃ n : Int, (n ≤ 65536 → ∀ c ∈ m.cons, conS c) ∧ At [(3, V.i n)] [.mem false [] [m.cells]] st) ?_ ?_
  · refine vc_cut (At [(1, .ptr 0 1 0 0), (3, V.i n), (5, V.i 0)] [.mem false [] [m.cells]]) (by simp -dsimp [At, h]) ?_
    try clear h
    rintro ⟨sl, hp, bs⟩ ⟨rfl, h⟩
    simp only [sls_cons, sls_one, sls_nil] at h
    refine vc_block_of (vc_upto 1 (by simp) m.vars.length (fun i st => ∃ n' : Int, n ≤ n' ∧ n' ≤ 300000000000000 ∧ At [(1, .ptr 0 1 0 0), (3, V.i n'), (5, V.i i)] [.mem false [] [m.cells]] st) ⟨n, by omega, by omega, rfl, by simpa using h⟩ ?_)
    clear h
    rintro i ⟨sl, hp, bs⟩ hi ⟨n', n2, n3, rfl, h⟩
    simp only [sls_cons, sls_one] at h
    unfold hallmarklaw11_light.b1
    by_cases hil : i < m.vars.length
    · have hw : IntKind.i64.wrap ((i : Int) + 1) = ((i + 1 : Nat) : Int) := by rw [wrap64] <;> omega
      obtain ⟨c, hc⟩ : ∃ c, c = m.vars[i] := ⟨_, rfl⟩
      have hok := z4 _ (List.getElem_mem hil)
      rw [← hc] at hok
      by_cases hn : n' ≤ 65536
      · have w1 : IntKind.i64.wrap (n' + c.name.size) = n' + c.name.size := by rw [wrap64] <;> omega
        refine vc_cut (At [(1, .ptr 0 1 0 0), (3, V.i n'), (5, V.i i)] [.mem false [] [m.cells]]) (by simp -dsimp [h, At, hil, hn, Model.cells, vVars, vCons, vTerms]) ?_
        try clear h
        rintro ⟨sl, hp, bs⟩ ⟨rfl, h⟩
        simp only [sls_cons, sls_one, sls_nil] at h
        refine vc_cut (At [(1, .ptr 0 1 0 0), (3, V.i (n' + c.name.size)), (5, V.i i)] [.mem false [] [m.cells]]) (by simp -dsimp [h, At, hil, ← hc, Model.cells, vVars, vCons, vTerms, Var.cells, w1]) ?_
        try clear h
        rintro ⟨sl, hp, bs⟩ ⟨rfl, h⟩
        simp only [sls_cons, sls_one, sls_nil] at h
        simp -dsimp [h, At, hw, hil, Model.cells, vVars, vCons, vTerms]
        omega
      · simp -dsimp [h, At, hil, hn, Model.cells, vVars, vCons, vTerms]
    · have hil' : i = m.vars.length := by omega
      subst hil'
      simp -dsimp [h, At, Model.cells, vVars, vCons, vTerms]
      exact fun e => hn2 (by omega)
  rintro ⟨sl, hp, bs⟩ ⟨n, hn, rfl, h⟩
  simp only [sls_cons, sls_one] at h
  simp -dsimp [h, hallmarklaw11_light.rs]
  exact hn
end Go.Abs.G

namespace Go.Abs.G
open Go.Proofs
set_option linter.unusedVariables false
set_option linter.unusedSimpArgs false

structure DOp where
  kind : Int
  ck : Int
  cx : Int
  cv : Int
  n : Int
structure DCut where
  k : Int
  x : Int
  v : Int
def DOp.cells (o : DOp) : List V := [V.i o.kind, V.i o.ck, V.i o.cx, V.i o.cv, V.i o.n]
def DCut.cells (c : DCut) : List V := [V.i c.k, V.i c.x, V.i c.v]
def vOps (l : List DOp) : V := .view 5 (l.map DOp.cells)
def vCuts (l : List DCut) : V := .view 3 (l.map DCut.cells)

structure SG (s : List Dom) (ms : List (List Dom)) : Prop extends SOk s ms where
  L : ∀ L ∈ ms, L.length ≤ 64 ∧ ∀ d ∈ L, d.ok

theorem cutS_cases (s : List Dom) (k x v : Int) : (cutS s k x v).1 = s ∨ ∃ d, s[x.toNat]? = some d ∧ (cutS s k x v).1 = s.set x.toNat (cutTo k v d d.width) := by
  unfold cutS
  split
  · split
    · next d e => split
                  · exact .inl rfl
                  · exact .inr ⟨d, e, rfl⟩
    · exact .inl rfl
  · exact .inl rfl
theorem cutS_len (s : List Dom) (k x v : Int) : (cutS s k x v).1.length = s.length := by
  rcases cutS_cases s k x v with e | ⟨d, _, e⟩ <;> rw [e]; simp
theorem cutS_ok {s : List Dom} (k x v : Int) (h : ∀ d ∈ s, d.ok) : ∀ d ∈ (cutS s k x v).1, d.ok := by
  rcases cutS_cases s k x v with e | ⟨d, hd, e⟩ <;> rw [e]
  · exact h
  · intro d' hd'
    rcases List.mem_or_eq_of_mem_set hd' with h' | rfl
    · exact h d' h'
    · exact cutTo_ok k v (h d (List.mem_of_getElem? hd)) _
theorem SG.cut {s : List Dom} {ms : List (List Dom)} (h : SG s ms) (k x v : Int) : SG (cutS s k x v).1 ms :=
  ⟨⟨by rw [cutS_len]; exact h.n, h.k, cutS_ok k x v h.d⟩, h.L⟩

structure Small (m : Model) : Prop where
  v : m.vars.length ≤ 300
  c : m.cons.length ≤ 300
  g : m.goal.length ≤ 300
  e : ∀ c ∈ m.cons, conS c
theorem small_spec (m : Model) (l : List DOp) (hm : zModel m) : DP Tryz.prog hallmarklaw11_small.id [.agg m.cells, vOps l] fun r => ∃ b, r = .bool b ∧ (b = true → Small m ∧ l.length ≤ 300) := by
  refine DC.of hallmarklaw11_small.ok (by simp) ?_
  unfold hallmarklaw11_small.ir
  refine vc_cut (At [(1, vOps l), (2, .ptr 0 1 0 0)] [.mem false [] [m.cells]]) (by simp -dsimp [At, Model.cells, vVars, vCons, vTerms]) ?_
  try clear h
  rintro ⟨sl, hp, bs⟩ ⟨rfl, h⟩
  simp only [sls_cons, sls_one, sls_nil] at h
  by_cases h1 : m.vars.length ≤ 300
  · have h1' : (m.vars.length : Int) ≤ 300 := by omega
    by_cases h2 : m.cons.length ≤ 300
    · have h2' : (m.cons.length : Int) ≤ 300 := by omega
      by_cases h3 : m.goal.length ≤ 300
      · have h3' : (m.goal.length : Int) ≤ 300 := by omega
        simp -dsimp [h, h1, h2, h3, h1', h2', h3', Model.cells, vVars, vCons, vTerms]
        refine gcall_gen (light_spec m hm) (by simp -dsimp [h, Model.cells, vVars, vCons, vTerms]) (by simp [Model.cells, vVars, vCons, vTerms]) ?_
        rintro r ⟨b, rfl, hb⟩
        cases b
        · simp -dsimp [h, hallmarklaw11_small.rs, Model.cells, vVars, vCons, vTerms]
        · by_cases h4 : l.length ≤ 300
          · have h4' : (l.length : Int) ≤ 300 := by omega
            simp -dsimp [h, hallmarklaw11_small.rs, h1, h4, h4', vOps]
            exact ⟨h1, h2, h3, hb rfl⟩
          · have h4' : ¬ (l.length : Int) ≤ 300 := by omega
            simp -dsimp [h, hallmarklaw11_small.rs, h1, h4, h4', vOps]
      · have h3' : ¬ (m.goal.length : Int) ≤ 300 := by omega
        simp -dsimp [h, h1, h2, h3, h1', h2', h3', hallmarklaw11_small.rs, Model.cells, vVars, vCons, vTerms]
    · have h2' : ¬ (m.cons.length : Int) ≤ 300 := by omega
      simp -dsimp [h, h1, h2, h1', h2', hallmarklaw11_small.rs, Model.cells, vVars, vCons, vTerms]
  · have h1' : ¬ (m.vars.length : Int) ≤ 300 := by omega
    simp -dsimp [h, h1, h1', hallmarklaw11_small.rs, Model.cells, vVars, vCons, vTerms]

def cutsB : List Dom → List DCut → List Dom × Bool
  | s, [] => (s, true)
  | s, c :: l => if (cutS s c.k c.x c.v).2.2 then cutsB (cutS s c.k c.x c.v).1 l else ((cutS s c.k c.x c.v).1, false)

end Go.Abs.G


namespace Go.Abs.G
open Go.Proofs
set_option linter.unusedVariables false
set_option linter.unusedSimpArgs false

theorem drop_has {d : Dom} (h : d.ok) {k i : Nat} (hk : k < 64) (hi : i < 64) : (d.drop k).has i = (d.has i && !decide (i = k)) := by
  unfold Dom.drop Dom.has
  by_cases h1 : k < 32
  · rw [if_pos h1]
    by_cases h2 : i < 32
    · simp only [h2, if_true]; exact clr_bit h.a h1 i
    · simp only [h2, if_false]
      have : i ≠ k := by omega
      simp [this]
  · rw [if_neg h1]
    by_cases h2 : i < 32
    · simp only [h2, if_true]
      have : i ≠ k := by omega
      simp [this]
    · simp only [h2, if_false]
      rw [clr_bit h.b (by omega)]
      have : (i - 32 = k - 32) ↔ i = k := by omega
      simp [this]

theorem cutTo_has (k v : Int) {d : Dom} (h : d.ok) : ∀ n, n ≤ 64 → ∀ i, i < 64 → (cutTo k v d n).has i = (d.has i && !(decide (i < n) && goesB k v (d.from' + i))) := by
  intro n
  induction n with
  | zero => intro _ i _; simp [cutTo]
  | succ n ih =>
    intro hn i hi
    have ih := ih (by omega) i hi
    unfold cutTo
    have hin : i < n + 1 ↔ (i < n ∨ i = n) := by omega
    split
    · next hg =>
      rw [drop_has (cutTo_ok k v h n) (by omega) hi, ih]
      by_cases hi2 : i = n
      · subst hi2; simp [hg]
      · have : decide (i < n + 1) = decide (i < n) := by simp; omega
        simp [hi2, this]
    · next hg =>
      rw [ih]
      by_cases hi2 : i = n
      · subst hi2
        have : goesB k v (d.from' + i) = false := by simpa using hg
        simp [this]
      · have : decide (i < n + 1) = decide (i < n) := by simp; omega
        rw [this]

def NE (s : List Dom) : Prop := ∀ d ∈ s, d.none = false
theorem NE.cut {s : List Dom} (h : NE s) (k x v : Int) : NE (cutS s k x v).1 := by
  unfold cutS
  split
  · split
    · next d e =>
      split
      · exact h
      · next hn =>
        intro d' hd'
        rcases List.mem_or_eq_of_mem_set hd' with h' | rfl
        · exact h d' h'
        · simpa using hn
    · exact h
  · exact h
theorem NE.cuts : ∀ (l : List DCut) {s : List Dom}, NE s → NE (cutsB s l).1
  | [], s, h => h
  | c :: l, s, h => by
    unfold cutsB
    split
    · exact NE.cuts l (h.cut _ _ _)
    · exact h.cut _ _ _

theorem add_has {d : Dom} (h : d.ok) {k i : Nat} (hk : k < 64) (hi : i < 64) : (d.add k).has i = (d.has i || decide (i = k)) := by
  unfold Dom.add Dom.has
  by_cases h1 : k < 32
  · rw [if_pos h1]
    by_cases h2 : i < 32
    · simp only [h2, if_true]; exact sett_bit h.a h1 i
    · simp only [h2, if_false]
      have : i ≠ k := by omega
      simp [this]
  · rw [if_neg h1]
    by_cases h2 : i < 32
    · simp only [h2, if_true]
      have : i ≠ k := by omega
      simp [this]
    · simp only [h2, if_false]
      rw [sett_bit h.b (by omega)]
      have : (i - 32 = k - 32) ↔ i = k := by omega
      simp [this]
theorem fillTo_has {d : Dom} (h : d.ok) : ∀ n, n ≤ 64 → ∀ i, i < 64 → (fillTo d n).has i = (d.has i || decide (i < n)) := by
  intro n
  induction n with
  | zero => intro _ i _; simp [fillTo]
  | succ n ih =>
    intro hn i hi
    have ih := ih (by omega) i hi
    unfold fillTo
    rw [add_has (fillTo_ok h n) (by omega) hi, ih]
    by_cases h1 : i = n
    · subst h1; simp
    · have : decide (i < n + 1) = decide (i < n) := by simp; omega
      simp [h1, this]
theorem domOf_from (v : Var) : (domOf v).from' = v.lo := fillTo_from _ _
theorem domOf_width (v : Var) : (domOf v).width = (v.hi - v.lo + 1).toNat := fillTo_width _ _
theorem domOf_has {v : Var} (h : VarOk v) {i : Nat} (hi : i < (domOf v).width) : (domOf v).has i = true := by
  have hok := dom0_ok h
  have hw := hok.w
  rw [domOf_width] at hi
  have hi' : i < (dom0 v).width := hi
  unfold domOf
  rw [fillTo_has hok _ hw i (by omega)]
  simp [hi']
theorem none_of_has {d : Dom} {i : Nat} (h : d.has i = true) : d.none = false := by
  unfold Dom.none
  unfold Dom.has at h
  split at h
  · have : d.a ≠ 0 := fun e => by rw [e] at h; simp at h
    simp [this]
  · have : d.b ≠ 0 := fun e => by rw [e] at h; simp at h
    simp [this]

theorem vals_eq {d d' : Dom} (hf : d'.from' = d.from') (hw : d'.width = d.width) (hh : ∀ i, i < d.width → d'.has i = d.has i) : d'.vals d'.width = d.vals d.width := by
  unfold Dom.vals
  rw [hw, hf]
  congr 1
  refine List.filter_congr fun i hi => ?_
  exact hh i (List.mem_range.1 hi)

end Go.Abs.G

/- What the reference's store tells is what the store tells. -/
namespace Go.Abs.G
set_option linter.unusedVariables false
set_option linter.unusedSimpArgs false

structure DG (x : Dom) : Prop where
  ok : x.ok
  full : ∀ i, i < 64 → x.width ≤ i → x.has i = false
  ne : x.none = false
def refD (s : List Dom) : List (List Int) := s.map fun x => x.vals x.width

theorem refD_len (s : List Dom) : (refD s).length = s.length := by simp [refD]
theorem is_ref (s : List Dom) (x : Int) : isR (refD s) x = isB s x := by simp [isR, isB, refD_len]
theorem row_ref (s : List Dom) (x : Int) : rowR (refD s) x = valsB s x := by
  unfold rowR valsB
  rw [is_ref]
  by_cases h : isB s x = true
  · rw [if_pos h, if_pos h]; simp [refD, List.getElem?_map]
  · rw [if_neg h, if_neg h]
theorem size_has {x : Dom} (h : x.ok) : x.size = (List.range 64).countP x.has := by
  have e : (List.range 64) = List.range 32 ++ (List.range 32).map (32 + ·) := by rw [← List.range_add]
  rw [e, List.countP_append, List.countP_map]
  unfold Dom.size pop
  have h1 : (List.range 32).countP x.has = (List.range 32).countP x.a.testBit := List.countP_congr fun i hi => by
    have : i < 32 := by simpa using hi
    simp [Dom.has, this]
  have h2 : (List.range 32).countP (x.has ∘ (32 + ·)) = (List.range 32).countP x.b.testBit := List.countP_congr fun i hi => by
    have h2 : ¬ 32 + i < 32 := by omega
    simp [Dom.has, h2, Function.comp]
  rw [h1, h2]
theorem size_ref {x : Dom} (h : DG x) : x.size = (x.vals x.width).length := by
  have hw := h.ok.w
  obtain ⟨r, hr⟩ : ∃ r, 64 = x.width + r := ⟨64 - x.width, by omega⟩
  rw [size_has h.ok, hr, List.range_add, List.countP_append, List.countP_map]
  have : (List.range r).countP (x.has ∘ (x.width + ·)) = 0 := by
    rw [List.countP_eq_zero]
    intro i hi
    have : i < r := by simpa using hi
    simp [h.full (x.width + i) (by omega) (by omega)]
  rw [this, Dom.vals, List.length_map, List.countP_eq_length_filter, Nat.add_zero]
theorem mem_vals {x : Dom} {v : Int} : v ∈ x.vals x.width ↔ ∃ i : Nat, i < x.width ∧ x.has i = true ∧ v = x.from' + i := by
  simp only [Dom.vals, List.mem_map, List.mem_filter, List.mem_range]
  constructor
  · rintro ⟨i, ⟨a, b⟩, c⟩; exact ⟨i, a, b, c.symm⟩
  · rintro ⟨i, a, b, c⟩; exact ⟨i, ⟨a, b⟩, c.symm⟩
theorem has_ref (s : List Dom) (x v : Int) : hasB s x v = decide (v ∈ rowR (refD s) x) := by
  rw [row_ref]
  unfold hasB valsB isB
  cases hx : s[x.toNat]? with
  | none => simp
  | some d =>
    have hlt := lt_of_get hx
    by_cases h0 : 0 ≤ x
    · have hl : x < s.length := by omega
      rw [Bool.eq_iff_iff]
      simp only [h0, hl, decide_true, Bool.true_and, if_true, Option.map_some, Option.getD_some, decide_eq_true_eq, Bool.and_eq_true, mem_vals]
      constructor
      · rintro ⟨⟨a, b⟩, c⟩; exact ⟨(v - d.from').toNat, by omega, c, by omega⟩
      · rintro ⟨i, a, b, c⟩
        have : (v - d.from').toNat = i := by omega
        exact ⟨⟨by omega, by omega⟩, by rw [this]; exact b⟩
    · simp [h0]
theorem open_ref {s : List Dom} (h : ∀ d ∈ s, DG d) : ∀ n, openB s n = openR (refD s) n := fun n => by
  unfold openB openR
  congr 1
  refine List.filter_congr fun i hi => ?_
  simp only [refD, List.getElem?_map]
  cases hs : s[i]? with
  | none => simp
  | some d => simp [size_ref (h d (List.mem_of_getElem? hs))]
theorem same_ref (s t : List Dom) : sameB s t = decide (refD s = refD t) := by
  rw [Bool.eq_iff_iff]
  simp only [sameB, Bool.and_eq_true, decide_eq_true_eq, List.all_eq_true, List.mem_range]
  constructor
  · rintro ⟨h1, h2⟩
    refine List.ext_getElem? fun i => ?_
    by_cases hi : i < s.length
    · have := h2 i hi
      have a1 : isB s (i : Int) = true := by simp [isB]; omega
      have a2 : isB t (i : Int) = true := by simp [isB]; omega
      have hit : i < t.length := by omega
      simp only [valsB, a1, a2, if_true, Int.toNat_natCast, List.getElem?_eq_getElem hi, List.getElem?_eq_getElem hit, Option.map_some, Option.getD_some] at this
      simp only [refD, List.getElem?_map, List.getElem?_eq_getElem hi, List.getElem?_eq_getElem hit, Option.map_some, this]
    · rw [List.getElem?_eq_none (by rw [refD_len]; omega), List.getElem?_eq_none (by rw [refD_len]; omega)]
  · intro h
    have hl : s.length = t.length := by rw [← refD_len s, h, refD_len]
    exact ⟨hl, fun i hi => by rw [← row_ref, ← row_ref, h]⟩
end Go.Abs.G

namespace Go.Abs.G
set_option linter.unusedVariables false
set_option linter.unusedSimpArgs false

theorem vals_range {x : Dom} (h : ∀ i, i < x.width → x.has i = true) : x.vals x.width = (List.range x.width).map fun (i : Nat) => x.from' + (i : Int) := by
  unfold Dom.vals
  rw [List.filter_eq_self.2 (fun i hi => h i (by simpa using hi))]
theorem new_ref (m : Model) : refD (domsOf m) = refOf m := by
  unfold domsOf refOf
  by_cases hz : (checkB m).2 = 0
  · have hR : Right m := right_iff.1 (by simp [rightB, hz])
    rw [if_pos hz, if_pos hz]
    unfold refD
    rw [List.map_map]
    refine List.map_congr_left fun v hv => ?_
    obtain ⟨i, hi⟩ := List.getElem?_of_mem hv
    have hvo := VarOk.of (hR.var i v hi)
    simp only [Function.comp]
    rw [vals_range (fun i hi => domOf_has hvo hi), domOf_from, domOf_width]
    rfl
  · rw [if_neg hz, if_neg hz]; rfl

theorem none_has {d : Dom} (h : d.none = true) (i : Nat) : d.has i = false := by
  simp [Dom.none] at h
  unfold Dom.has
  rw [h.1, h.2]
  split <;> simp
theorem has_eq {d e : Dom} (hd : d.ok) (he : e.ok) (h : ∀ i, i < 64 → d.has i = e.has i) : d.a = e.a ∧ d.b = e.b := by
  constructor
  · refine Nat.eq_of_testBit_eq fun i => ?_
    by_cases hi : i < 32
    · have := h i (by omega); simpa [Dom.has, hi] using this
    · rw [Nat.testBit_lt_two_pow (Nat.lt_of_lt_of_le (show d.a < 2 ^ 32 from hd.a) (Nat.pow_le_pow_right (by omega) (by omega : 32 ≤ i))), Nat.testBit_lt_two_pow (Nat.lt_of_lt_of_le (show e.a < 2 ^ 32 from he.a) (Nat.pow_le_pow_right (by omega) (by omega : 32 ≤ i)))]
  · refine Nat.eq_of_testBit_eq fun i => ?_
    by_cases hi : i < 32
    · have := h (32 + i) (by omega); have h2 : ¬ 32 + i < 32 := by omega
      simpa [Dom.has, h2] using this
    · rw [Nat.testBit_lt_two_pow (Nat.lt_of_lt_of_le (show d.b < 2 ^ 32 from hd.b) (Nat.pow_le_pow_right (by omega) (by omega : 32 ≤ i))), Nat.testBit_lt_two_pow (Nat.lt_of_lt_of_le (show e.b < 2 ^ 32 from he.b) (Nat.pow_le_pow_right (by omega) (by omega : 32 ≤ i)))]

section
variable {d : Dom} (h : DG d) (k v : Int)
include h
theorem cut_has (i : Nat) (hi : i < 64) : (cutTo k v d d.width).has i = (d.has i && !(decide (i < d.width) && goesB k v (d.from' + i))) := cutTo_has k v h.ok d.width h.ok.w i hi
theorem cut_vals : (cutTo k v d d.width).vals (cutTo k v d d.width).width = leftR k v (d.vals d.width) := by
  have hw := h.ok.w
  rw [cutTo_width]
  unfold Dom.vals leftR
  rw [List.filter_map, List.filter_filter, cutTo_from]
  congr 1
  refine List.filter_congr fun i hi => ?_
  have hi : i < d.width := by simpa using hi
  rw [cut_has h k v i (by omega)]
  simp [hi, Function.comp, Bool.and_comm]
theorem cut_none : (cutTo k v d d.width).none = decide (leftR k v (d.vals d.width) = []) := by
  have hw := h.ok.w
  have hok := cutTo_ok k v h.ok d.width
  rw [← cut_vals h k v, Bool.eq_iff_iff, decide_eq_true_eq]
  constructor
  · intro hn
    refine List.eq_nil_iff_forall_not_mem.2 fun u hu => ?_
    obtain ⟨i, a, b, c⟩ := mem_vals.1 hu
    rw [none_has hn] at b; cases b
  · intro he
    have : (cutTo k v d d.width).a = 0 ∧ (cutTo k v d d.width).b = 0 := has_eq (e := ⟨d.from', d.width, 0, 0⟩) hok ⟨h.ok.f, h.ok.w, by simp, by simp⟩ fun i hi => by
      have hz : (⟨d.from', d.width, 0, 0⟩ : Dom).has i = false := none_has rfl i
      rw [hz]
      by_cases hiw : i < d.width
      · cases hb : (cutTo k v d d.width).has i
        · rfl
        · have := mem_vals.2 ⟨i, by rw [cutTo_width]; exact hiw, hb, rfl⟩
          rw [he] at this; cases this
      · rw [cut_has h k v i hi, h.full i hi (by omega)]; rfl
    simp [Dom.none, this]
theorem cut_same : (!(cutTo k v d d.width).same d) = decide ((leftR k v (d.vals d.width)).length < (d.vals d.width).length) := by
  have hw := h.ok.w
  have hok := cutTo_ok k v h.ok d.width
  cases hs : (cutTo k v d d.width).same d
  · symm
    simp only [Bool.not_false, decide_eq_true_eq]
    refine Nat.lt_of_le_of_ne (leftR_len k v _) fun e => ?_
    have hall : leftR k v (d.vals d.width) = d.vals d.width := List.filter_sublist.eq_of_length e
    have := has_eq hok h.ok fun i hi => by
      by_cases hiw : i < d.width
      · rw [cut_has h k v i hi]
        cases hb : d.has i
        · rfl
        · have hm : d.from' + (i : Int) ∈ d.vals d.width := mem_vals.2 ⟨i, hiw, hb, rfl⟩
          rw [← hall] at hm
          have := (List.mem_filter.1 hm).2
          simp at this
          simp [this]
      · rw [cut_has h k v i hi, h.full i hi (by omega)]; rfl
    simp [Dom.same, this] at hs
  · symm
    simp only [Bool.not_true, decide_eq_false_iff_not]
    simp [Dom.same] at hs
    have : leftR k v (d.vals d.width) = d.vals d.width := by
      rw [← cut_vals h k v]
      refine vals_eq (cutTo_from k v d d.width) (cutTo_width k v d d.width) fun i _ => ?_
      unfold Dom.has; rw [hs.1, hs.2]
    rw [this]; omega
theorem cut_DG (hn : leftR k v (d.vals d.width) ≠ []) : DG (cutTo k v d d.width) := by
  refine ⟨cutTo_ok k v h.ok d.width, fun i hi hw => ?_, ?_⟩
  · rw [cutTo_width] at hw
    rw [cut_has h k v i hi, h.full i hi hw]; rfl
  · rw [cut_none h k v]; simpa using hn
end

theorem cut_ref {s : List Dom} (hs : ∀ d ∈ s, DG d) (k x v : Int) : cutR (refD s) k x v = (refD (cutS s k x v).1, (cutS s k x v).2) ∧ ∀ d ∈ (cutS s k x v).1, DG d := by
  unfold cutR cutS
  rw [is_ref]
  by_cases hb : isB s x = true
  · have hb2 := hb
    simp [isB] at hb2
    have hlt : x.toNat < s.length := by omega
    obtain ⟨d, hd⟩ : ∃ d, s[x.toNat]? = some d := ⟨_, List.getElem?_eq_getElem hlt⟩
    have hdg := hs d (List.mem_of_getElem? hd)
    have hrow : rowR (refD s) x = d.vals d.width := by
      rw [row_ref]; unfold valsB; rw [if_pos hb, hd]; rfl
    rw [hrow, hb, if_neg (by simp), if_pos rfl, hd]
    simp only [cut_none hdg k v, cut_same hdg k v, decide_eq_true_eq]
    by_cases hn : leftR k v (d.vals d.width) = []
    · rw [if_pos hn, if_pos hn]
      exact ⟨rfl, hs⟩
    · rw [if_neg hn, if_neg hn]
      refine ⟨?_, fun e he => ?_⟩
      · simp only [refD, List.map_set, cut_vals hdg k v]
      · rcases List.mem_or_eq_of_mem_set he with h | h
        · exact hs e h
        · rw [h]; exact cut_DG hdg k v hn
  · have hf : isB s x = false := by simpa using hb
    rw [hf]
    simp
    exact hs
theorem DG.dok {s : List Dom} (hn : s.length ≤ 64) (hs : ∀ d ∈ s, DG d) : DOk (refD s) := by
  refine ⟨by rw [refD_len]; exact hn, fun l hl => ?_⟩
  simp only [refD, List.mem_map] at hl
  obtain ⟨d, hd, rfl⟩ := hl
  have hg := hs d hd
  refine ⟨?_, Nat.le_trans (vals_len d d.width) hg.ok.w⟩
  rw [← size_ref hg]
  refine Nat.pos_of_ne_zero fun h0 => ?_
  rw [size_has hg.ok, List.countP_eq_zero] at h0
  have := has_eq (e := ⟨d.from', d.width, 0, 0⟩) hg.ok ⟨hg.ok.f, hg.ok.w, by simp, by simp⟩ fun i hi => by
    rw [show (⟨d.from', d.width, 0, 0⟩ : Dom).has i = false from none_has rfl i]
    simpa using h0 i (by simpa using hi)
  have hne := hg.ne
  simp [Dom.none, this] at hne
end Go.Abs.G

namespace Go.Abs.G
set_option linter.unusedVariables false
set_option linter.unusedSimpArgs false

theorem domOf_DG {v : Var} (h : VarOk v) : DG (domOf v) := by
  have hok := dom0_ok h
  refine ⟨fillTo_ok hok _, fun i hi hw => ?_, none_of_has (domOf_has h (i := 0) ?_)⟩
  · rw [domOf_width] at hw
    unfold domOf
    rw [fillTo_has hok (dom0 v).width hok.w i hi]
    have hz : (dom0 v).has i = false := none_has rfl i
    have : ¬ i < (dom0 v).width := by simp only [dom0]; omega
    rw [hz]; simp [this]
  · rw [domOf_width]
    obtain ⟨a, b, c, e⟩ := h
    omega
theorem doms_DG (m : Model) : ∀ d ∈ domsOf m, DG d := by
  unfold domsOf
  by_cases hz : (checkB m).2 = 0
  · have hR : Right m := right_iff.1 (by simp [rightB, hz])
    rw [if_pos hz]
    intro d hd
    simp only [List.mem_map] at hd
    obtain ⟨v, hv, rfl⟩ := hd
    obtain ⟨i, hi⟩ := List.getElem?_of_mem hv
    exact domOf_DG (VarOk.of (hR.var i v hi))
  · rw [if_neg hz]; intro d hd; cases hd
theorem doms_len (m : Model) : (domsOf m).length ≤ 64 := by
  unfold domsOf
  by_cases hz : (checkB m).2 = 0
  · have hR : Right m := right_iff.1 (by simp [rightB, hz])
    have := hR.nv
    rw [if_pos hz, List.length_map]; omega
  · rw [if_neg hz]; simp

/-- Both stores, with all marks, tell the same. -/
structure Two (s : List Dom) (ms : List (List Dom)) : Prop where
  n : s.length ≤ 64
  k : ms.length ≤ 1000000
  d : ∀ d ∈ s, DG d
  m : ∀ L ∈ ms, L.length ≤ 64 ∧ ∀ d ∈ L, DG d
theorem Two.sok {s : List Dom} {ms : List (List Dom)} (h : Two s ms) : SOk s ms := ⟨h.n, h.k, fun d hd => (h.d d hd).ok⟩
theorem Two.rok {s : List Dom} {ms : List (List Dom)} (h : Two s ms) : ROk (refD s) (ms.map refD) := ⟨DG.dok h.n h.d, by simpa using h.k, fun e he => by
  simp only [List.mem_map] at he
  obtain ⟨L, hL, rfl⟩ := he
  exact DG.dok (h.m L hL).1 (h.m L hL).2⟩
theorem Two.new (m : Model) : Two (domsOf m) [] := ⟨doms_len m, by simp, doms_DG m, fun L hL => by cases hL⟩
theorem Two.cut {s : List Dom} {ms : List (List Dom)} (h : Two s ms) (k x v : Int) : Two (cutS s k x v).1 ms := ⟨by rw [cutS_len]; exact h.n, h.k, (cut_ref h.d k x v).2, h.m⟩
theorem Two.mark {s : List Dom} {ms : List (List Dom)} (h : Two s ms) (hk : ms.length + 1 ≤ 1000000) : Two s (ms ++ [s]) := ⟨h.n, by simpa using hk, h.d, fun L hL => by
  rcases List.mem_append.1 hL with hL | hL
  · exact h.m L hL
  · rw [List.mem_singleton.1 hL]; exact ⟨h.n, h.d⟩⟩
theorem Two.back {s : List Dom} {ms : List (List Dom)} (h : Two s ms) {j : Nat} (hj : j < ms.length) : Two ms[j] (ms.take j) := ⟨(h.m _ (List.getElem_mem hj)).1, Nat.le_trans (by simp; omega) h.k, (h.m _ (List.getElem_mem hj)).2, fun L hL => h.m L (List.mem_of_mem_take hL)⟩
end Go.Abs.G

/- Both stores under one name each, with their calls. -/
namespace Go.Abs.G
open Go.Proofs
set_option linter.unusedVariables false
set_option linter.unusedSimpArgs false

theorem vals_ne {s : List Dom} (h : ∀ d ∈ s, DG d) {x : Int} (hx : isB s x = true) : valsB s x ≠ [] := by
  unfold valsB
  rw [if_pos hx]
  have hl : 0 ≤ x ∧ x < s.length := by simpa [isB] using hx
  obtain ⟨i, rfl⟩ : ∃ i : Nat, x = i := ⟨x.toNat, by omega⟩
  have hi : i < s.length := by omega
  have hd := h _ (List.getElem_mem hi)
  simp only [Int.toNat_natCast, List.getElem?_eq_getElem hi, Option.map_some, Option.getD_some]
  intro e
  have hn := hd.ne
  have hz : ∀ j, j < 64 → (s[i]).has j = false := fun j hj => by
    by_cases hw : j < (s[i]).width
    · cases hh : (s[i]).has j
      · rfl
      · have : (s[i]).from' + (j : Int) ∈ (s[i]).vals (s[i]).width := mem_vals.2 ⟨j, hw, hh, rfl⟩
        rw [e] at this; cases this
    · exact hd.full j hj (by omega)
  have ha : (s[i]).a = 0 := Nat.eq_of_testBit_eq fun j => by
    by_cases hj : j < 32
    · have := hz j (by omega); simpa [Dom.has, hj] using this
    · rw [Nat.zero_testBit]; exact Nat.testBit_lt_two_pow (Nat.lt_of_lt_of_le hd.ok.a (by
        have : (2 : Nat) ^ 32 ≤ 2 ^ j := Nat.pow_le_pow_right (by omega) (by omega)
        simpa using this))
  have hb : (s[i]).b = 0 := Nat.eq_of_testBit_eq fun j => by
    by_cases hj : j < 32
    · have h2 : ¬ j + 32 < 32 := by omega
      have := hz (j + 32) (by omega); simpa [Dom.has, h2] using this
    · rw [Nat.zero_testBit]; exact Nat.testBit_lt_two_pow (Nat.lt_of_lt_of_le hd.ok.b (by
        have : (2 : Nat) ^ 32 ≤ 2 ^ j := Nat.pow_le_pow_right (by omega) (by omega)
        simpa using this))
  simp [Dom.none, ha, hb] at hn
theorem vals_no {s : List Dom} {x : Int} (hx : isB s x = false) : valsB s x = [] := by simp [valsB, hx]
theorem vals_at {s : List Dom} {i : Nat} (hi : i < s.length) : valsB s i = (s[i]).vals (s[i]).width := by
  have : isB s i = true := by simp [isB, hi]
  simp [valsB, this, hi]
theorem vals_mem {s : List Dom} (h : ∀ d ∈ s, DG d) {x v : Int} (hv : v ∈ valsB s x) : isB s x = true ∧ -1000000000 ≤ v ∧ v < 1000000064 := by
  cases hx : isB s x
  · rw [vals_no hx] at hv; cases hv
  · have hl : 0 ≤ x ∧ x < s.length := by simpa [isB] using hx
    obtain ⟨i, rfl⟩ : ∃ i : Nat, x = i := ⟨x.toNat, by omega⟩
    have hi : i < s.length := by omega
    have hd := h _ (List.getElem_mem hi)
    rw [vals_at hi] at hv
    obtain ⟨j, hj, _, rfl⟩ := mem_vals.1 hv
    have := hd.ok.f; have := hd.ok.w
    exact ⟨rfl, by omega, by omega⟩
theorem valsB_small {s : List Dom} (h : ∀ d ∈ s, DG d) (x : Int) : (valsB s x).length ≤ 64 := by
  cases hx : isB s x
  · rw [vals_no hx]; simp
  · have hl : 0 ≤ x ∧ x < s.length := by simpa [isB] using hx
    obtain ⟨i, rfl⟩ : ∃ i : Nat, x = i := ⟨x.toNat, by omega⟩
    have hi : i < s.length := by omega
    have hd := h _ (List.getElem_mem hi)
    rw [vals_at hi, Dom.vals, List.length_map]
    exact Nat.le_trans (List.length_filter_le _ _) (by simpa using hd.ok.w)
/-- Rising: no value twice. -/
theorem vals_up (d : Dom) (n : Nat) : (d.vals n).Pairwise (· < ·) := by
  unfold Dom.vals
  rw [List.pairwise_map]
  refine List.Pairwise.imp (R := fun (a b : Nat) => a < b) (fun h => by omega) ?_
  exact List.Pairwise.filter _ List.pairwise_lt_range
theorem valsB_up (s : List Dom) (x : Int) : (valsB s x).Pairwise (· < ·) := by
  unfold valsB
  split
  · cases s[x.toNat]? <;> simp [vals_up]
  · exact .nil
def loB (s : List Dom) (x : Int) : Int := (valsB s x).headD 0
def hiB (s : List Dom) (x : Int) : Int := (valsB s x).getLastD 0
theorem head_mem {l : List Int} (h : l ≠ []) : l.headD 0 ∈ l := by cases l with | nil => exact (h rfl).elim | cons a l => simp
theorem last_mem {l : List Int} (h : l ≠ []) : l.getLastD 0 ∈ l := by
  rw [List.getLastD_eq_getLast?, List.getLast?_eq_some_getLast h]; exact List.getLast_mem h
theorem lo_range {s : List Dom} (h : ∀ d ∈ s, DG d) (x : Int) : -1000000000 ≤ loB s x ∧ loB s x < 1000000064 := by
  by_cases e : valsB s x = []
  · simp [loB, e]
  · exact (vals_mem h (head_mem e)).2
theorem hi_range {s : List Dom} (h : ∀ d ∈ s, DG d) (x : Int) : -1000000000 ≤ hiB s x ∧ hiB s x < 1000000064 := by
  by_cases e : valsB s x = []
  · simp [hiB, e]
  · exact (vals_mem h (last_mem e)).2
theorem head_le {l : List Int} (h : l.Pairwise (· < ·)) {v : Int} (hv : v ∈ l) : l.headD 0 ≤ v := by
  cases l with
  | nil => cases hv
  | cons a l => rcases List.mem_cons.1 hv with rfl | hv
                · simp
                · have := List.rel_of_pairwise_cons h hv; simp; omega
theorem lo_le {s : List Dom} {x v : Int} (hv : v ∈ valsB s x) : loB s x ≤ v := head_le (valsB_up s x) hv
theorem lo_le_hi {s : List Dom} (x : Int) : loB s x ≤ hiB s x := by
  by_cases e : valsB s x = []
  · simp [loB, hiB, e]
  · exact lo_le (last_mem e)
/-- The program's store, the document's: each one object. -/
def ST (s : List Dom) (ms : List (List Dom)) : O := St1 s (mT ms)
def RT (s : List Dom) (ms : List (List Dom)) : O := RR (refD s) (ms.map refD)
theorem ST_nres (s : List Dom) (ms : List (List Dom)) : ST s ms ≠ .res := fun e => by cases e
theorem RT_nres (s : List Dom) (ms : List (List Dom)) : RT s ms ≠ .res := fun e => by cases e
theorem ST_clo' (s : List Dom) (ms : List (List Dom)) : (ST s ms).clo := St1_clo s ms
theorem RT_clo' (s : List Dom) (ms : List (List Dom)) : (RT s ms).clo := RR_clo _ _
section
variable (s : List Dom) (ms : List (List Dom))
@[simp high] theorem ST_isMem : (ST s ms).isMem = false := rfl
@[simp high] theorem RT_isMem : (RT s ms).isMem = false := rfl
@[simp high] theorem ST_isTree : (ST s ms).isTree = true := rfl
@[simp high] theorem RT_isTree : (RT s ms).isTree = true := rfl
@[simp high] theorem ST_trows : (ST s ms).trows = 1 := rfl
@[simp high] theorem RT_trows : (RT s ms).trows = 1 := rfl
@[simp high] theorem ST_refs : (ST s ms).refs = [] := rfl
@[simp high] theorem RT_refs : (RT s ms).refs = [] := rfl
@[simp high] theorem ST_tot : (ST s ms).hasTot 1 = True := by simp [ST, St1, O.hasTot]
@[simp high] theorem RT_tot : (RT s ms).hasTot 1 = True := by simp [RT, RR, R1, O.hasTot]
@[simp] theorem ST_nres' : (ST s ms = .res) = False := eq_false (ST_nres s ms)
@[simp] theorem RT_nres' : (RT s ms = .res) = False := eq_false (RT_nres s ms)
@[simp] theorem ST_clo : (ST s ms).clo = True := eq_true (ST_clo' s ms)
@[simp] theorem RT_clo : (RT s ms).clo = True := eq_true (RT_clo' s ms)
@[simp high] theorem ST_ren (f : Nat → Nat) : O.ren f (ST s ms) = ST s ms := (ST_clo' s ms).ren f
@[simp high] theorem RT_ren (f : Nat → Nat) : O.ren f (RT s ms) = RT s ms := (RT_clo' s ms).ren f
@[simp high] theorem ST_lim (n : Nat) : limO n (ST s ms) = ST s ms := by simp [ST]
@[simp high] theorem RT_lim (n : Nat) : limO n (RT s ms) = RT s ms := by simp [RT, RR, R1, limO, O.refs]
end

@[simp high] theorem ren_vInts (f : Nat → Nat) (l : List Int) : V.ren f (vInts l) = vInts l := by
  simp only [vInts, V.ren]
section
variable {s : List Dom} {ms : List (List Dom)} (h : Two s ms)
include h
theorem varsT : DC Tryz.prog dom_Store_Vars.id [.ptr 0 1 0 0] [ST s ms] fun r H => r = V.i s.length ∧ H = [ST s ms] := varsP h.sok
theorem sizeT (x : Int) : DC Tryz.prog dom_Store_Size.id [.ptr 0 1 0 0, V.i x] [ST s ms] fun r H => r = V.i (valsB s x).length ∧ H = [ST s ms] := by
  refine DC.to (sizeP h.sok x) ⟨?_, rfl⟩
  cases hx : isB s x
  · rw [vals_no hx]; rfl
  · have hl : 0 ≤ x ∧ x < s.length := by simpa [isB] using hx
    obtain ⟨i, rfl⟩ : ∃ i : Nat, x = i := ⟨x.toNat, by omega⟩
    have hi : i < s.length := by omega
    rw [vals_at hi, ← size_ref (h.d _ (List.getElem_mem hi))]
    simp [hi]
theorem hasT (x v : Int) (hv : I64 v) : DC Tryz.prog dom_Store_Has.id [.ptr 0 1 0 0, V.i x, V.i v] [ST s ms] fun r H => r = .bool (decide (v ∈ valsB s x)) ∧ H = [ST s ms] := by
  have := hasP h.sok x v hv
  rw [has_ref, row_ref] at this; exact this
theorem valuesT (x : Int) : DC Tryz.prog dom_Store_Values.id [.ptr 0 1 0 0, V.i x] [ST s ms] fun r H => r = vInts (valsB s x) ∧ H = [ST s ms] := valuesP h.sok x
theorem openT : DC Tryz.prog dom_Store_Open.id [.ptr 0 1 0 0] [ST s ms] fun r H => r = vInts (openB s s.length) ∧ H = [ST s ms] := openP h.sok
theorem loT (x : Int) : DC Tryz.prog dom_Store_Lo.id [.ptr 0 1 0 0, V.i x] [ST s ms] fun r H => r = V.i (loB s x) ∧ H = [ST s ms] := by
  refine DC.to (loP h.sok x fun hx => vals_ne h.d hx) ⟨?_, rfl⟩
  cases hx : isB s x
  · simp [loB, vals_no hx]
  · simp [loB]
theorem hiT (x : Int) : DC Tryz.prog dom_Store_Hi.id [.ptr 0 1 0 0, V.i x] [ST s ms] fun r H => r = V.i (hiB s x) ∧ H = [ST s ms] := by
  refine DC.to (hiP h.sok x fun hx => vals_ne h.d hx) ⟨?_, rfl⟩
  cases hx : isB s x
  · simp [hiB, vals_no hx]
  · simp [hiB]
theorem cutT (k x v : Int) : DC Tryz.prog dom_Store_Cut.id [.ptr 0 1 0 0, .agg [V.i k, V.i x, V.i v]] [ST s ms] fun r H => r = .tup [.bool (cutS s k x v).2.1, .bool (cutS s k x v).2.2] ∧ H = [ST (cutS s k x v).1 ms] := cutP h.sok k x v
theorem markT : DC Tryz.prog dom_Store_Mark.id [.ptr 0 1 0 0] [ST s ms] (fun r H => r = V.i ms.length ∧ H = [ST s (ms ++ [s])]) := mark_packed h.n h.k
theorem backT_no (j : Int) (hj : ¬ (0 ≤ j ∧ j < ms.length)) : DC Tryz.prog dom_Store_Back.id [.ptr 0 1 0 0, V.i j] [ST s ms] (fun r H => r = .bool false ∧ H = [ST s ms]) := back_no h.k j hj
theorem backT_yes (j : Nat) (hj : j < ms.length) : DC Tryz.prog dom_Store_Back.id [.ptr 0 1 0 0, V.i j] [ST s ms] (fun r H => r = .bool true ∧ H = [ST ms[j] (ms.take j)]) := back_yes h.k (by simp [hj])
theorem copyT : DC Tryz.prog dom_Store_Copy.id [.ptr 0 1 0 0] [ST s ms] (fun r H => r = .ptr 1 1 0 0 ∧ H = [ST s ms, ST s ms]) := copy_packed h.n h.k fun L hL => (h.m L hL).1
theorem same1T : DC Tryz.prog dom_Same.id [.ptr 0 1 0 0, .ptr 0 1 0 0] [ST s ms] (fun r H => r = .bool true ∧ H = [ST s ms]) := sameP1 h.sok
theorem sameT {t : List Dom} {ns : List (List Dom)} (g : Two t ns) : DC Tryz.prog dom_Same.id [.ptr 0 1 0 0, .ptr 1 1 0 0] [ST s ms, ST t ns] (fun r H => r = .bool (decide (refD s = refD t)) ∧ H = [ST s ms, ST t ns]) := by
  have := samePP h.sok g.sok
  rw [same_ref] at this; exact this

theorem varsZ : DC Tryz.prog hallmarkref11_Store_Vars.id [.ptr 0 1 0 0] [RT s ms] fun r H => r = V.i s.length ∧ H = [RT s ms] := by
  have := varsRP h.rok; rw [refD_len] at this; exact this
theorem sizeZ (x : Int) : DC Tryz.prog hallmarkref11_Store_Size.id [.ptr 0 1 0 0, V.i x] [RT s ms] fun r H => r = V.i (valsB s x).length ∧ H = [RT s ms] := by
  have := sizeRP h.rok x; rw [row_ref] at this; exact this
theorem hasZ (x v : Int) : DC Tryz.prog hallmarkref11_Store_Has.id [.ptr 0 1 0 0, V.i x, V.i v] [RT s ms] fun r H => r = .bool (decide (v ∈ valsB s x)) ∧ H = [RT s ms] := by
  have := hasRP h.rok x v; rw [row_ref] at this; exact this
theorem valuesZ (x : Int) : DC Tryz.prog hallmarkref11_Store_Values.id [.ptr 0 1 0 0, V.i x] [RT s ms] fun r H => r = vInts (valsB s x) ∧ H = [RT s ms] := by
  have := valuesRP h.rok x; rw [row_ref] at this; exact this
theorem openZ : DC Tryz.prog hallmarkref11_Store_Open.id [.ptr 0 1 0 0] [RT s ms] fun r H => r = vInts (openB s s.length) ∧ H = [RT s ms] := by
  have := openRP h.rok; rw [refD_len, ← open_ref h.d] at this; exact this
theorem loZ (x : Int) : DC Tryz.prog hallmarkref11_Store_Lo.id [.ptr 0 1 0 0, V.i x] [RT s ms] fun r H => r = V.i (loB s x) ∧ H = [RT s ms] := by
  have := loRP h.rok x; rw [row_ref] at this; exact this
theorem hiZ (x : Int) : DC Tryz.prog hallmarkref11_Store_Hi.id [.ptr 0 1 0 0, V.i x] [RT s ms] fun r H => r = V.i (hiB s x) ∧ H = [RT s ms] := by
  have := hiRP h.rok x; rw [row_ref] at this; exact this
theorem cutZ (k x v : Int) : DC Tryz.prog hallmarkref11_Store_Cut.id [.ptr 0 1 0 0, .agg [V.i k, V.i x, V.i v]] [RT s ms] fun r H => r = .tup [.bool (cutS s k x v).2.1, .bool (cutS s k x v).2.2] ∧ H = [RT (cutS s k x v).1 ms] := by
  have := cutRP h.rok k x v
  rw [(cut_ref h.d k x v).1] at this; exact this
theorem markZ : DC Tryz.prog hallmarkref11_Store_Mark.id [.ptr 0 1 0 0] [RT s ms] (fun r H => r = V.i ms.length ∧ H = [RT s (ms ++ [s])]) := by
  have := markRP h.rok
  rw [List.length_map] at this
  refine DC.to this ⟨rfl, ?_⟩
  simp [RT]
theorem backZ_no (j : Int) (hj : ¬ (0 ≤ j ∧ j < ms.length)) : DC Tryz.prog hallmarkref11_Store_Back.id [.ptr 0 1 0 0, V.i j] [RT s ms] (fun r H => r = .bool false ∧ H = [RT s ms]) := backRP_no h.rok j (by simpa using hj)
theorem backZ_yes (j : Nat) (hj : j < ms.length) : DC Tryz.prog hallmarkref11_Store_Back.id [.ptr 0 1 0 0, V.i j] [RT s ms] (fun r H => r = .bool true ∧ H = [RT ms[j] (ms.take j)]) := by
  have := backRP_yes h.rok j (by simpa using hj)
  refine DC.to this ⟨rfl, ?_⟩
  simp [RT, List.map_take]
theorem copyZ : DC Tryz.prog hallmarkref11_Store_Copy.id [.ptr 0 1 0 0] [RT s ms] (fun r H => r = .ptr 1 1 0 0 ∧ H = [RT s ms, RT s ms]) := copyRP h.rok
theorem samesZ {t : List Dom} {ns : List (List Dom)} (g : Two t ns) : DC Tryz.prog hallmarkref11_Same.id [.ptr 0 1 0 0, .ptr 1 1 0 0] [RT s ms, RT t ns] (fun r H => r = .bool (decide (refD s = refD t)) ∧ H = [RT s ms, RT t ns]) := sameRP h.rok g.rok
end
theorem newT (m : Model) (hm : okModel m) : DC Tryz.prog dom_New.id [.agg m.cells] [] (fun r H => r = .ptr 0 1 0 0 ∧ H = [ST (domsOf m) []]) := newP1 m hm
theorem newZ (m : Model) (hm : okModel m) : DC Tryz.prog hallmarkref11_New.id [.agg m.cells] [] (fun r H => r = .ptr 0 1 0 0 ∧ H = [RT (domsOf m) []]) := by
  have := newRP m hm
  rw [← new_ref] at this; exact this
end Go.Abs.G
