import Derived.Test.YtbmcfbemmjojlaaGreatB3
import Derived.KernelRfl
import Derived.Laws.Strings
set_option linter.all false
namespace Go.Abs.G
open Go.Proofs
set_option linter.unusedVariables false
set_option linter.unusedSimpArgs false
attribute [local simp] I.vc

def openB (s : List Dom) (n : Nat) : List Int := ((List.range n).filter fun i => decide (1 < ((s[i]?).map Dom.size).getD 0)).map fun (i : Nat) => (i : Int)
theorem open_succ (s : List Dom) (n : Nat) : openB s (n + 1) = if 1 < ((s[n]?).map Dom.size).getD 0 then openB s n ++ [(n : Int)] else openB s n := by
  unfold openB
  rw [List.range_succ, List.filter_append, List.map_append]
  by_cases h : 1 < ((s[n]?).map Dom.size).getD 0 <;> simp [h]
theorem open_len (s : List Dom) (n : Nat) : (openB s n).length ≤ n := by
  unfold openB
  rw [List.length_map]
  exact Nat.le_trans (List.length_filter_le _ _) (by simp)
section
variable {s s' : List Dom} {T T' : List (List Ce)} {E : Heap}
@[simp] theorem U_take5b (a b : O) : List.take 5 (U s T ++ (a :: b :: E)) = U s T ++ [a, b] := rfl
@[simp] theorem U_take5c : List.take 5 (U s T) = U s T := rfl
end

theorem open_spec {s : List Dom} {T : List (List Ce)} (hs : StOk s T) : DC Tryz.prog dom_Store_Open.id [.ptr 0 1 0 0] (U s T) (fun r H => r = vInts (openB s s.length) ∧ H = U s T) := by
  refine trimU (S' := fun _ => s) (T' := fun _ => T) (Q := fun r => r = vInts (openB s s.length)) ?_
  have hsn := hs.n
  refine DC.of dom_Store_Open.ok (by simp) ?_
  unfold dom_Store_Open.ir
  refine vc_cut (fun st => gt st.sl 0 = .ptr 0 1 0 0 ∧ st.hp = U s T) (by simp) ?_
  rintro ⟨sl, hp, bs⟩ ⟨h0, rfl⟩
  refine vc_cut (fun st => gt st.sl 0 = .ptr 0 1 0 0 ∧ gt st.sl 3 = .a (.slice none 0 0) ∧ st.hp = U s T) (by simp [h0]) ?_
  clear h0
  rintro ⟨sl, hp, bs⟩ ⟨h0, h3, rfl⟩
  refine vc_cut (fun st => (gt st.sl 3 = .a (.slice none 0 0) ∧ st.hp = U s T ∧ openB s s.length = []) ∨ (gt st.sl 3 = .own 4 1 0 (openB s s.length).length (openB s s.length).length ∧ st.hp = U s T ++ [.res, .mem false [] ((openB s s.length).map fun n => [V.i n])])) ?_ ?_
  · simp [h0, h3]
    refine WI.mono (Q := fun e st => e = .exit 0 ∧ ((gt st.sl 3 = .a (.slice none 0 0) ∧ st.hp = U s T ∧ openB s s.length = []) ∨ (gt st.sl 3 = .own 4 1 0 (openB s s.length).length (openB s s.length).length ∧ st.hp = U s T ++ [.res, .mem false [] ((openB s s.length).map fun n => [V.i n])])))
      (WI.loop 5 (by simp) (fun st => ∃ j, j ≤ s.length ∧ gt st.sl 0 = .ptr 0 1 0 0 ∧ gt st.sl 9 = V.i s.length ∧ gt st.sl 10 = V.i j ∧ ((gt st.sl 3 = .a (.slice none 0 0) ∧ st.hp = U s T ∧ openB s j = []) ∨ (gt st.sl 3 = .own 4 1 0 (openB s j).length (openB s j).length ∧ st.hp = U s T ++ [.res, .mem false [] ((openB s j).map fun n => [V.i n])]))) (fun st => (s.length - (gt st.sl 10).num).toNat) ?_ ?_) ?_
    · exact ⟨0, by simp [h0, h3, openB]⟩
    · clear h0 h3
      rintro ⟨sl, hp, bs⟩ ⟨j, hj, h0, h9, h10, h3⟩
      by_cases hjl : j < s.length
      · have hw : IntKind.i64.wrap ((j : Int) + 1) = ((j + 1 : Nat) : Int) := by rw [wrap64] <;> omega
        have hv := open_succ s j
        have hvl := open_len s j
        have hB : isB s j = true := by simp [isB]; omega
        have hz := sizeS_spec hs j
        rw [if_pos hB] at hz
        simp only [Int.toNat_natCast] at hz
        generalize ((s[j]?).map Dom.size).getD 0 = z at hz hv
        rcases h3 with ⟨h3, rfl, hnil⟩ | ⟨h3, rfl⟩
        · simp [dom_Store_Open.b0, h0, h3, h9, h10, hjl, hw, U_clos, U_sel, U_sub hs.t, V.idsL, V.ids]
          refine DC.mono hz ?_
          rintro r H ⟨rfl, rfl⟩
          by_cases hg : 1 < z
          · have hg' : (1 : Int) < z := by omega
            simp [U_merge hs.t, hg']
            exact ⟨⟨j + 1, by omega, by omega, by simp [hv, hg, hnil]⟩, by omega⟩
          · have hg' : ¬ (1 : Int) < z := by omega
            simp [U_merge hs.t, hg']
            exact ⟨⟨j + 1, by omega, by omega, by rw [hv, if_neg hg]; exact hnil⟩, by omega⟩
        · simp [dom_Store_Open.b0, h0, h3, h9, h10, hjl, hw, UE_clos, UE_sel, UE_sub hs.t, V.idsL, V.ids]
          refine DC.mono hz ?_
          rintro r H ⟨rfl, rfl⟩
          by_cases hg : 1 < z
          · have hg' : (1 : Int) < z := by omega
            simp [UE_merge hs.t, hg']
            exact ⟨by omega, ⟨j + 1, by omega, by omega, by simp [hv, hg]⟩, by omega⟩
          · have hg' : ¬ (1 : Int) < z := by omega
            simp [UE_merge hs.t, hg']
            exact ⟨⟨j + 1, by omega, by omega, by simp [hv, hg]⟩, by omega⟩
      · obtain rfl : j = s.length := by omega
        simp [dom_Store_Open.b0, h0, h9, h10]
        exact h3
    · rintro e ⟨sl, hp, bs⟩ ⟨rfl, h5⟩
      simpa using h5
  clear h0 h3
  rintro ⟨sl, hp, bs⟩ (⟨h5, rfl, hnil⟩ | ⟨h5, rfl⟩)
  · simp [h5, hnil, dom_Store_Open.rs, V.ids, V.nilSl, vInts]
  · simp [h5, dom_Store_Open.rs, V.ids, V.nilSl, vInts]
    exact List.take_of_length_le (by simp)
end Go.Abs.G


namespace Go.Abs
set_option linter.unusedVariables false
section
variable {w : World} {β : Nat → Hd} {F : Nat → Prop} {H : Heap}

/-- An object of trees told otherwise, in the same blocks. -/
theorem adv_tree {id : Nat} {refs refs' : List Nat} {rows rows' : List (List Ce)} (hk : HOK w.heap H β F) (hid : H[id]? = some (.tree refs rows)) (hl : rows'.length = rows.length)
    (h : ∀ c' : Cx, c'.hp = w.heap → ((cx w.heap H β F).only refs).le (c'.only refs) → ∀ S ad cap es, TR c' refs S (.slice (some ad) rows.length cap) (.n es rows) → TR c' refs' S (.slice (some ad) rows.length cap) (.n es rows')) :
    ∃ β', Adv F w H β w (H.set id (.tree refs' rows')) β' := by
  refine ⟨_, turn_at (S := (β id).sub) hk hid (by simp) (fun b hb => ?_) (fun g' hg => ?_) fun hle => ?_⟩
  · unfold ownsB at hb ⊢
    rw [get_set hid, upd_same] at hb
    rw [hid]
    exact hb
  · unfold hdOf at hg ⊢
    rw [get_set hid, upd_same] at hg
    rw [hid]
    simp only [hl] at hg
    exact hg
  · rcases hk.ro id _ hid with hr | ⟨q1, q2, q3, q4, q5⟩
    · refine .inl ⟨hr.1, ?_, hr.2.2⟩
      have := hr.2.1
      exact List.length_eq_zero_iff.1 (by rw [hl, this]; rfl)
    · refine .inr ⟨q1, q2, q3, ?_, q5⟩
      rw [hl]
      exact h _ rfl (hle.only _) _ _ _ _ (q4.mono (hle.only _) fun _ _ => rfl)

theorem adv_refsT {id : Nat} {refs refs' : List Nat} {rows : List (List Ce)} (hk : HOK w.heap H β F) (hid : H[id]? = some (.tree refs rows)) (hs : ∀ k ∈ Ce.idsR rows, k ∈ refs') : ∃ β', Adv F w H β w (H.set id (.tree refs' rows)) β' :=
  adv_tree hk hid rfl fun c' _ _ S ad cap es h => h.refs fun k hk => hs k (by simpa only [Ce.ids] using hk)

theorem adv_nilcell {id i j es : Nat} {refs : List Nat} {rows : List (List Ce)} {row : List Ce} (hk : HOK w.heap H β F) (hid : H[id]? = some (.tree refs rows)) (hi : rows[i]? = some row) (hj : row[j]? = some (.v (.a (.slice none 0 0)))) :
    ∃ β', Adv F w H β w (H.set id (.tree refs (rows.set i (row.set j (.n es []))))) β' := by
  refine adv_tree hk hid List.length_set fun c' _ _ S ad cap es' h => ?_
  obtain ⟨u, Sx, hx, hxs, _, hset⟩ := h.cell hi hj
  have hu : u = .slice none 0 0 := by
    have := hx.val
    cases this with
    | a => rfl
  subst hu
  have hn := hx.vsub
  exact (hset c' refs rfl (fun _ _ _ h => h) (.n es []) noSub .nil fun k e => e.elim).congr fun k => ⟨fun e => e.elim (fun e => e.1) fun e => e.elim, fun e => .inl ⟨e, hn k⟩⟩

theorem lo_of_ptr {c : Cx} {v : Value} {id n : Nat} {h : Hd} (hv : RV c v (.ptr id n 0 0)) (hd : c.hd id = some h) (ht : h.tot = n) : h.lo = 0 := by
  cases hv with
  | ptr hl hh => exact Nat.le_zero.1 ((hh h hd).2 ht).1

abbrev nilS : V := .a (.slice none 0 0)

/-- A struct of two nil slices, as one that owns two slices. -/
theorem adv_nil2 {id e1 e2 : Nat} (hk : HOK w.heap H β F) (hid : H[id]? = some (.mem false [] [[nilS, nilS]])) (hlo : (β id).lo = 0) :
    ∃ β', Adv F w H β w (H.set id (.mem false [H.length, H.length + 1] [[.own H.length e1 0 0 0, .own (H.length + 1) e2 0 0 0]]) ++ [.mem false [] [], .tree [] []]) β' := by
  have hlt := lt_of_get hid
  obtain ⟨β1, a1⟩ := adv_toTree hk hid hlo
  have g1 := get_set (y := O.tree [] (flatC [[nilS, nilS]])) hid
  obtain ⟨β2, a2⟩ := adv_nilcell (i := 0) (j := 0) (es := e1) a1.hok g1 rfl rfl
  rw [List.set_set] at a2
  have g2 := get_set (y := O.tree [] [[.n e1 [], .v nilS]]) hid
  obtain ⟨β3, a3⟩ := adv_nilcell (i := 0) (j := 1) (es := e2) a2.hok g2 rfl rfl
  rw [List.set_set] at a3
  have g3 := get_set (y := O.tree [] [[.n e1 [], .n e2 []]]) hid
  obtain ⟨β4, a4⟩ := adv_unpack (i := 0) (j := 0) a3.hok g3 rfl rfl
  rw [List.set_set, List.length_set] at a4
  replace a4 : Adv F w (H.set id (.tree [] [[.n e1 [], .n e2 []]])) β3 w (H.set id (.tree [H.length] [[.v (.own H.length e1 0 0 0), .n e2 []]]) ++ [O.tree [] []]) β4 := a4
  have g4 : (H.set id (.tree [H.length] [[.v (.own H.length e1 0 0 0), .n e2 []]]) ++ [O.tree [] []])[id]? = some (.tree [H.length] [[.v (.own H.length e1 0 0 0), .n e2 []]]) := by
    rw [List.getElem?_append_left (by simpa using hlt)]; exact get_set hid
  obtain ⟨β5, a5⟩ := adv_unpack (i := 0) (j := 1) a4.hok g4 rfl rfl
  have e5 : (H.set id (.tree [H.length] [[.v (.own H.length e1 0 0 0), .n e2 []]]) ++ [O.tree [] []]).set id (.tree [H.length + 1, H.length] [[.v (.own H.length e1 0 0 0), .v (.own (H.length + 1) e2 0 0 0)]]) ++ [.tree [H.length] []] = H.set id (.tree [H.length + 1, H.length] [[.v (.own H.length e1 0 0 0), .v (.own (H.length + 1) e2 0 0 0)]]) ++ [.tree [] [], .tree [H.length] []] := by
    rw [List.set_append, if_pos (by simpa using hlt), List.set_set, List.append_assoc]; rfl
  have l5 : (H.set id (.tree [H.length] [[.v (.own H.length e1 0 0 0), .n e2 []]]) ++ [O.tree [] []]).length = H.length + 1 := by simp
  rw [l5] at a5
  have a5' : Adv F w (H.set id (.tree [H.length] [[.v (.own H.length e1 0 0 0), .n e2 []]]) ++ [O.tree [] []]) β4 w ((H.set id (.tree [H.length] [[.v (.own H.length e1 0 0 0), .n e2 []]]) ++ [O.tree [] []]).set id (.tree [H.length + 1, H.length] [[.v (.own H.length e1 0 0 0), .v (.own (H.length + 1) e2 0 0 0)]]) ++ [.tree [H.length] []]) β5 := a5
  rw [e5] at a5'
  generalize hP : O.tree [H.length + 1, H.length] [[.v (.own H.length e1 0 0 0), .v (.own (H.length + 1) e2 0 0 0)]] = P at a5'
  have g5 : (H.set id P ++ [O.tree [] [], O.tree [H.length] []])[H.length + 1]? = some (.tree [H.length] []) := by
    rw [List.getElem?_append_right (by simp)]; simp
  obtain ⟨β6, a6⟩ := adv_refsT (refs' := []) a5'.hok g5 (by simp [Ce.idsR])
  have e6 : (H.set id P ++ [O.tree [] [], O.tree [H.length] []]).set (H.length + 1) (O.tree [] []) = H.set id P ++ [O.tree [] [], O.tree [] []] := by
    rw [List.set_append, if_neg (by simp)]; simp
  rw [e6] at a6
  have g6 : (H.set id P ++ [O.tree [] [], .tree [] []])[H.length]? = some (.tree [] (flatC [])) := by
    rw [List.getElem?_append_right (by simp)]; simp [flatC]
  obtain ⟨β7, a7⟩ := adv_toMem a6.hok g6
  have e7 : (H.set id P ++ [O.tree [] [], .tree [] []]).set H.length (.mem false [] []) = H.set id P ++ [.mem false [] [], .tree [] []] := by
    rw [List.set_append, if_neg (by simp)]; simp
  rw [e7] at a7
  subst hP
  have g7 : (H.set id (.tree [H.length + 1, H.length] [[.v (.own H.length e1 0 0 0), .v (.own (H.length + 1) e2 0 0 0)]]) ++ [O.mem false [] [], .tree [] []])[id]? = some (.tree [H.length + 1, H.length] [[.v (.own H.length e1 0 0 0), .v (.own (H.length + 1) e2 0 0 0)]]) := by
    rw [List.getElem?_append_left (by simpa using hlt)]; exact get_set hid
  obtain ⟨β8, a8⟩ := adv_refsT (refs' := [H.length, H.length + 1]) a7.hok g7 (by simp [Ce.idsR, Ce.idsL, Ce.ids, V.ids])
  have e8 : ∀ P P' : O, (H.set id P ++ [O.mem false [] [], .tree [] []]).set id P' = H.set id P' ++ [O.mem false [] [], .tree [] []] := fun P P' => by
    rw [List.set_append, if_pos (by simpa using hlt), List.set_set]
  rw [e8] at a8
  have g8 : (H.set id (.tree [H.length, H.length + 1] [[.v (.own H.length e1 0 0 0), .v (.own (H.length + 1) e2 0 0 0)]]) ++ [O.mem false [] [], .tree [] []])[id]? = some (.tree [H.length, H.length + 1] (flatC [[.own H.length e1 0 0 0, .own (H.length + 1) e2 0 0 0]])) := by
    rw [List.getElem?_append_left (by simpa using hlt)]; exact get_set hid
  obtain ⟨β9, a9⟩ := adv_toMem a8.hok g8
  rw [e8] at a9
  exact ⟨β9, a1.trans (a2.trans (a3.trans (a4.trans (a5'.trans (a6.trans (a7.trans (a8.trans a9)))))))⟩
end
end Go.Abs
namespace Go.Abs
theorem Weak.nil2 {st : St} {id e1 e2 t : Nat} (hid : st.hp[id]? = some (.mem false [] [[nilS, nilS]])) (ht : gt st.sl t = .ptr id 1 0 0) :
    Weak st { st with hp := st.hp.set id (.mem false [st.hp.length, st.hp.length + 1] [[.own st.hp.length e1 0 0 0, .own (st.hp.length + 1) e2 0 0 0]]) ++ [.mem false [] [], .tree [] []] } := by
  refine ⟨rfl, fun k hk => ?_, by simp, fun w β F N a hR => ?_⟩
  · show (st.hp.set id _ ++ _)[k]? = _
    have hne : k ≠ id := by rintro rfl; rw [hid] at hk; simp at hk
    rw [List.getElem?_append_left (by rw [List.length_set]; exact lt_of_get hk), getElem?_set_ne' hne]; exact hk
  · have hs := hR.sl t
    rw [ht] at hs
    have hd : (cx w.heap st.hp β F).hd id = some ((β id).wt 1) := by show hdOf st.hp β id = _; unfold hdOf; rw [hid]; rfl
    have hlo : ((β id).wt 1).lo = 0 := lo_of_ptr (h := (β id).wt 1) hs hd rfl
    obtain ⟨β', adv⟩ := adv_nil2 (e1 := e1) (e2 := e2) hR.hok hid hlo
    exact ⟨β', adv, hR.adv adv⟩
end Go.Abs

namespace Go.Abs
set_option linter.unusedVariables false

/-- A child: its number, its cells' size, what it may name, its rows. -/
structure Kid where
  id : Nat
  es : Nat
  refs : List Nat
  L : List (List Ce)

def Kid.own (c : Kid) : List Ce := [.v (.own c.id c.es 0 c.L.length c.L.length)]
def Kid.nest (c : Kid) : List Ce := [.n c.es c.L]

theorem adv_packAll {w : World} {F : Nat → Prop} {id : Nat} : ∀ (todo done : List Kid) (H : Heap) (β : Nat → Hd) (refs : List Nat), HOK w.heap H β F →
    H[id]? = some (.tree refs (done.map Kid.nest ++ todo.map Kid.own)) → (∀ c ∈ todo, H[c.id]? = some (.tree c.refs c.L) ∧ c.id ≠ id) → (todo.map Kid.id).Nodup →
    ∃ β' H' refs', Adv F w H β w H' β' ∧ H'[id]? = some (.tree refs' ((done ++ todo).map Kid.nest)) ∧ H'.length = H.length ∧ ∀ j, j ≠ id → j ∉ todo.map Kid.id → H'[j]? = H[j]?
  | [], done, H, β, refs, hk, hid, _, _ => ⟨β, H, refs, ⟨hk, .refl _, .refl _ _⟩, by simpa using hid, rfl, fun _ _ _ => rfl⟩
  | c :: rest, done, H, β, refs, hk, hid, hc, hnd => by
    obtain ⟨h1, h2⟩ := hc c (by simp)
    have hi : (done.map Kid.nest ++ (c :: rest).map Kid.own)[done.length]? = some c.own := by
      rw [List.getElem?_append_right (by simp)]; simp
    obtain ⟨β1, a1⟩ := adv_pack (i := done.length) (j := 0) hk hid h1 (fun e => h2 e.symm) hi rfl rfl
    have e1 : (done.map Kid.nest ++ (c :: rest).map Kid.own).set done.length (c.own.set 0 (.n c.es c.L)) = (done ++ [c]).map Kid.nest ++ rest.map Kid.own := by
      rw [List.set_append, if_neg (by simp)]; simp [Kid.own, Kid.nest]
    rw [e1] at a1
    have hid0 : (H.set c.id O.dead)[id]? = some (.tree refs (done.map Kid.nest ++ (c :: rest).map Kid.own)) := by rw [getElem?_set_ne' (Ne.symm h2)]; exact hid
    have g1 : ((H.set c.id O.dead).set id (.tree (refs ++ c.refs) ((done ++ [c]).map Kid.nest ++ rest.map Kid.own)))[id]? = some (.tree (refs ++ c.refs) ((done ++ [c]).map Kid.nest ++ rest.map Kid.own)) := get_set hid0
    have hnd' : c.id ∉ rest.map Kid.id ∧ (rest.map Kid.id).Nodup := by simpa using List.nodup_cons.1 hnd
    obtain ⟨β2, H2, refs2, a2, b1, b2, b3⟩ := adv_packAll rest (done ++ [c]) _ β1 _ a1.hok g1 (fun d hd => by
      obtain ⟨q1, q2⟩ := hc d (by simp [hd])
      refine ⟨?_, q2⟩
      rw [getElem?_set_ne' q2, getElem?_set_ne' fun e => hnd'.1 (by rw [← e]; exact List.mem_map_of_mem hd)]
      exact q1) hnd'.2
    refine ⟨β2, H2, refs2, a1.trans a2, by simpa using b1, by simpa using b2, fun j h3 h4 => ?_⟩
    rw [List.map_cons, List.mem_cons, not_or] at h4
    rw [b3 j h3 h4.2, getElem?_set_ne' h3, getElem?_set_ne' h4.1]

end Go.Abs

namespace Go.Abs
set_option linter.unusedVariables false

def kids (es : Nat) : Nat → List (List (List Ce)) → List Kid
  | _, [] => []
  | n, L :: l => ⟨n, es, [], L⟩ :: kids es (n + 1) l

theorem kids_ids (es : Nat) : ∀ (n : Nat) (l : List (List (List Ce))), (kids es n l).map Kid.id = List.range' n l.length
  | _, [] => rfl
  | n, L :: l => by simp [kids, kids_ids es (n + 1) l, List.range'_succ]

theorem own_idsR : ∀ (l : List Kid), Ce.idsR (l.map Kid.own) = l.map Kid.id
  | [] => rfl
  | c :: l => by simp [Ce.idsR, Ce.idsL, Kid.own, Ce.ids, V.ids, own_idsR l]

theorem adv_kids {w : World} {F : Nat → Prop} {id : Nat} {es : Nat} : ∀ (todo : List (List (List Ce))) (done : List Kid) (H : Heap) (β : Nat → Hd) (refs : List Nat), HOK w.heap H β F → (∀ L ∈ todo, Ce.idsR L = []) →
    H[id]? = some (.tree refs (done.map Kid.own ++ todo.map fun L => [.n es L])) →
    ∃ β' refs', Adv F w H β w (H.set id (.tree refs' ((done ++ kids es H.length todo).map Kid.own)) ++ todo.map fun L => .tree [] L) β'
  | [], done, H, β, refs, hk, _, hid => ⟨β, refs, by
      have : H.set id (.tree refs ((done ++ kids es H.length []).map Kid.own)) ++ ([] : List (List (List Ce))).map (fun L => O.tree [] L) = H := by
        obtain ⟨h1, h2⟩ := List.getElem?_eq_some_iff.1 hid
        simp only [List.append_nil, List.map_nil, kids] at h2 ⊢
        rw [← h2]; exact List.set_getElem_self h1
      rw [this]; exact ⟨hk, .refl _, .refl _ _⟩⟩
  | L :: rest, done, H, β, refs, hk, hcl, hid => by
    have hi : (done.map Kid.own ++ (L :: rest).map fun L => [Ce.n es L])[done.length]? = some [.n es L] := by
      rw [List.getElem?_append_right (by simp)]; simp
    obtain ⟨β1, a1⟩ := adv_unpack (i := done.length) (j := 0) hk hid hi rfl
    let c : Kid := ⟨H.length, es, [], L⟩
    have e1 : (done.map Kid.own ++ (L :: rest).map fun L => [Ce.n es L]).set done.length (([Ce.n es L] : List Ce).set 0 (.v (.own H.length es 0 L.length L.length))) = (done ++ [c]).map Kid.own ++ rest.map fun L => [Ce.n es L] := by
      rw [List.set_append, if_neg (by simp)]; simp [Kid.own, c]
    rw [e1] at a1
    have hlt := lt_of_get hid
    generalize hP : O.tree (H.length :: refs) ((done ++ [c]).map Kid.own ++ rest.map fun L => [Ce.n es L]) = P at a1
    have g0 : (H.set id P ++ [O.tree refs L])[H.length]? = some (.tree refs L) := by
      rw [List.getElem?_append_right (by simp)]; simp
    obtain ⟨β2, a2⟩ := adv_refsT (refs' := []) a1.hok g0 (by rw [hcl L (by simp)]; simp)
    have e2 : (H.set id P ++ [O.tree refs L]).set H.length (.tree [] L) = H.set id P ++ [O.tree [] L] := by
      rw [List.set_append, if_neg (by simp)]; simp
    rw [e2] at a2
    subst hP
    have g1 : (H.set id (.tree (H.length :: refs) ((done ++ [c]).map Kid.own ++ rest.map fun L => [Ce.n es L])) ++ [O.tree [] L])[id]? = some (.tree (H.length :: refs) ((done ++ [c]).map Kid.own ++ rest.map fun L => [Ce.n es L])) := by
      rw [List.getElem?_append_left (by simpa using hlt)]; exact get_set hid
    obtain ⟨β3, refs3, a3⟩ := adv_kids rest (done ++ [c]) _ β2 _ a2.hok (fun L' h => hcl L' (by simp [h])) g1
    refine ⟨β3, refs3, ?_⟩
    have := a1.trans (a2.trans a3)
    rw [List.set_append, if_pos (by simpa using hlt), List.set_set, List.append_assoc] at this
    simpa [c, kids] using this

/-- A tree of closed slices, taken apart: the slices become objects behind the others. -/
theorem adv_open {w : World} {F : Nat → Prop} {β : Nat → Hd} {H : Heap} {id es : Nat} {refs : List Nat} {todo : List (List (List Ce))} (hk : HOK w.heap H β F) (hcl : ∀ L ∈ todo, Ce.idsR L = [])
    (hid : H[id]? = some (.tree refs (todo.map fun L => [.n es L]))) :
    ∃ β', Adv F w H β w (H.set id (.mem false (List.range' H.length todo.length) ((kids es H.length todo).map fun c => [.own c.id c.es 0 c.L.length c.L.length])) ++ todo.map fun L => .tree [] L) β' := by
  obtain ⟨β1, refs1, a1⟩ := adv_kids todo [] H β refs hk hcl (by simpa using hid)
  have hlt := lt_of_get hid
  have g1 : (H.set id (.tree refs1 (([] ++ kids es H.length todo).map Kid.own)) ++ todo.map fun L => O.tree [] L)[id]? = some (.tree refs1 (([] ++ kids es H.length todo).map Kid.own)) := by
    rw [List.getElem?_append_left (by simpa using hlt)]; exact get_set hid
  obtain ⟨β2, a2⟩ := adv_refsT (refs' := List.range' H.length todo.length) a1.hok g1 (by rw [List.nil_append, own_idsR, kids_ids]; exact fun k h => h)
  rw [List.set_append, if_pos (by simpa using hlt), List.set_set] at a2
  have ef : ([] ++ kids es H.length todo).map Kid.own = flatC ((kids es H.length todo).map fun c => [.own c.id c.es 0 c.L.length c.L.length]) := by
    simp [flatC, Kid.own, Function.comp_def]
  rw [ef] at a1 a2
  have g2 : (H.set id (.tree (List.range' H.length todo.length) (flatC ((kids es H.length todo).map fun c => [.own c.id c.es 0 c.L.length c.L.length]))) ++ todo.map fun L => O.tree [] L)[id]? = some (.tree (List.range' H.length todo.length) (flatC ((kids es H.length todo).map fun c => [.own c.id c.es 0 c.L.length c.L.length]))) := by
    rw [List.getElem?_append_left (by simpa using hlt)]; exact get_set hid
  obtain ⟨β3, a3⟩ := adv_toMem a2.hok g2
  rw [List.set_append, if_pos (by simpa using hlt), List.set_set] at a3
  exact ⟨β3, a1.trans (a2.trans a3)⟩

/-- A slice's object has its front, when a cell holds the whole of it. -/
theorem lo_of_cell {w : World} {F : Nat → Prop} {β : Nat → Hd} {H : Heap} {p c i j es k : Nat} {refs : List Nat} {rows : List (List V)} {row : List V} (hk : HOK w.heap H β F) (hp : H[p]? = some (.mem false refs rows)) (hlo : (β p).lo = 0)
    (hi : rows[i]? = some row) (hj : row[j]? = some (.own c es 0 k k)) (hc : hdOf H β c = some ((β c).wt k)) : (β c).lo = 0 := by
  rcases hk.ro p _ hp with hr | ⟨q1, q2, q3, q4, q5, cs, E, fr, q6, q7, q8, q9⟩
  · rw [hr.2.1] at hi; simp at hi
  · obtain ⟨v, _, _, hv⟩ := q9 i row hi (by rw [hlo]; exact Nat.zero_le _) j _ hj
    cases hv with
    | own hl hh => exact Nat.le_zero.1 ((hh _ hc).2 rfl).1
end Go.Abs

namespace Go.Abs.G
open Go.Proofs
set_option linter.unusedVariables false
set_option linter.unusedSimpArgs false
attribute [local simp] I.vc

def Z (s : List Dom) (rf : List Nat) (R : List (List V)) : Heap := [.mem false [1, 2] [[.own 1 4 0 s.length s.length, .own 2 1 0 R.length R.length]], .mem false [] (s.map Dom.row), .mem false rf R]
section
variable {s : List Dom} {rf : List Nat} {R : List (List V)} {Es E : Heap} {n : Nat}
@[simp] theorem Z_s2 (o : O) : ((Z s rf R ++ E).set 2 o)[2]? = some o := rfl
@[simp] theorem Z_0 : (Z s rf R ++ E)[0]? = some (.mem false [1, 2] [[.own 1 4 0 s.length s.length, .own 2 1 0 R.length R.length]]) := rfl
@[simp] theorem Z_1 : (Z s rf R ++ E)[1]? = some (.mem false [] (s.map Dom.row)) := rfl
@[simp] theorem Z_2 : (Z s rf R ++ E)[2]? = some (.mem false rf R) := rfl
@[simp] theorem Z_0' (h) : (Z s rf R ++ E)[0]'h = .mem false [1, 2] [[.own 1 4 0 s.length s.length, .own 2 1 0 R.length R.length]] := rfl
@[simp] theorem Z_1' (h) : (Z s rf R ++ E)[1]'h = .mem false [] (s.map Dom.row) := rfl
@[simp] theorem Z_2' (h) : (Z s rf R ++ E)[2]'h = .mem false rf R := rfl
@[simp] theorem Z_len : (Z s rf R).length = 3 := rfl
end

end Go.Abs.G


namespace Go.Abs
theorem DC.post' {P : Program} {f : FuncId} {xs : List V} {H : Heap} {Q Q' : V → Heap → Prop} (h : DC P f xs H Q)
    (hq : ∀ x H1, Q x H1 → ∀ (w : World) (β : Nat → Hd) (F : Nat → Prop) (vs : Array Value), HOK w.heap H1 β F → RVs (cx w.heap H1 β F) vs (x :: xs) → ∃ β' H2, Adv F w H1 β w H2 β' ∧ Q' x H2) : DC P f xs H Q' := fun w β F vs hk hr =>
  (h w β F vs hk hr).mono fun e w' ⟨r, x, H', β2, h1, h2, h3, h4⟩ => by
    obtain ⟨β3, H2, a, hQ⟩ := hq x H' h4 w' β2 F _ h2.hok (RVs.cons' h3 (hr.mono h2.le))
    exact ⟨r, x, H2, β3, h1, h2.trans a, h3.mono a.le, hQ⟩
end Go.Abs
namespace Go.Abs.G
open Go.Proofs
set_option linter.unusedVariables false
set_option linter.unusedSimpArgs false
attribute [local simp] I.vc

def domCe (d : Dom) : List Ce := d.row.map .v
def mT (ms : List (List Dom)) : List (List Ce) := ms.map fun L => [.n 4 (L.map domCe)]
theorem domCe_flat (L : List Dom) : L.map domCe = flatC (L.map Dom.row) := by simp [domCe, flatC, Function.comp_def]
theorem domCe_ids : ∀ L : List Dom, Ce.idsR (L.map domCe) = []
  | [] => rfl
  | d :: L => by
    have : Ce.idsL (domCe d) = [] := rfl
    simp [Ce.idsR, this, domCe_ids L]
theorem mT_ids : ∀ ms : List (List Dom), Ce.idsR (mT ms) = []
  | [] => rfl
  | L :: ms => by
    have h := mT_ids ms
    unfold mT at h
    simp [mT, Ce.idsR, Ce.idsL, Ce.ids, domCe_ids, h]
def kidsOf (ms : List (List Dom)) : List Kid := kids 4 3 (ms.map fun L => L.map domCe)
def rowsOf' (ms : List (List Dom)) : List (List V) := (kidsOf ms).map fun c => [.own c.id c.es 0 c.L.length c.L.length]
def objsOf (ms : List (List Dom)) : Heap := ms.map fun L => .tree [] (L.map domCe)
theorem kids_len (es : Nat) : ∀ (n : Nat) (l : List (List (List Ce))), (kids es n l).length = l.length
  | _, [] => rfl
  | n, L :: l => by simp [kids, kids_len es (n + 1) l]
theorem rowsOf_len (ms : List (List Dom)) : (rowsOf' ms).length = ms.length := by simp [rowsOf', kidsOf, kids_len]

theorem step_open {xs : List V} {s : List Dom} {ms : List (List Dom)} : Step xs (U s (mT ms)) (Z s (List.range' 3 ms.length) (rowsOf' ms) ++ objsOf ms) := fun w β F vs hk hr => by
  obtain ⟨β', a⟩ := adv_open (id := 2) (es := 4) (refs := []) (todo := ms.map fun L => L.map domCe) hk (by simp [domCe_ids]) (by simp [U, mT])
  refine ⟨β', ?_⟩
  have e : (U s (mT ms)).set 2 (.mem false (List.range' (U s (mT ms)).length (ms.map fun L => L.map domCe).length) ((kids 4 (U s (mT ms)).length (ms.map fun L => L.map domCe)).map fun c => [.own c.id c.es 0 c.L.length c.L.length])) ++ (ms.map fun L => L.map domCe).map (fun L => O.tree [] L) = Z s (List.range' 3 ms.length) (rowsOf' ms) ++ objsOf ms := by
    simp [U, Z, rowsOf', kidsOf, objsOf, mT, kids_len, Function.comp_def]
  rw [e] at a
  exact a
end Go.Abs.G


namespace Go.Abs.G
open Go.Proofs
set_option linter.unusedVariables false
set_option linter.unusedSimpArgs false
attribute [local simp] I.vc

theorem kids_mem (es : Nat) : ∀ (n : Nat) (l : List (List (List Ce))) (c : Kid), c ∈ kids es n l → ∃ i, l[i]? = some c.L ∧ c.id = n + i ∧ c.refs = [] ∧ c.es = es
  | _, [], c, h => by simp [kids] at h
  | n, L :: l, c, h => by
    simp only [kids, List.mem_cons] at h
    rcases h with rfl | h
    · exact ⟨0, rfl, rfl, rfl, rfl⟩
    · obtain ⟨i, h1, h2, h3, h4⟩ := kids_mem es (n + 1) l c h
      exact ⟨i + 1, by simpa using h1, by omega, h3, h4⟩
theorem lo_arg {w : World} {β : Nat → Hd} {F : Nat → Prop} {H : Heap} {vs : Array Value} {xs : List V} {i id n : Nat} (hr : RVs (cx w.heap H β F) vs xs) (hi : xs[i]? = some (.ptr id n 0 0)) (hd : hdOf H β id = some ((β id).wt n)) : (β id).lo = 0 := by
  have hlt := lt_of_get hi
  obtain ⟨v, hv⟩ : ∃ v, vs[i]? = some v := ⟨vs[i]'(by rw [hr.1]; exact hlt), Array.getElem?_eq_getElem _⟩
  exact lo_of_ptr (h := (β id).wt n) (hr.2 i v _ hv hi) hd rfl

end Go.Abs.G


namespace Go.Abs.G
open Go.Proofs
set_option linter.unusedVariables false
set_option linter.unusedSimpArgs false
attribute [local simp] I.vc

end Go.Abs.G


namespace Go.Abs.G
open Go.Proofs
set_option linter.unusedVariables false
set_option linter.unusedSimpArgs false
attribute [local simp] I.vc

/-- A store as one thing. -/
def St1 (s : List Dom) (T : List (List Ce)) : O := .tree [] [[.n 4 (s.map domCe), .n 1 T]]

/-- The struct first; then it holds the evidence for its doms. -/
theorem lo_of_tree {w : World} {F : Nat → Prop} {β : Nat → Hd} {H : Heap} {p c i j es k : Nat} {refs : List Nat} {rows : List (List Ce)} {row : List Ce} (hk : HOK w.heap H β F) (hp : H[p]? = some (.tree refs rows))
    (hi : rows[i]? = some row) (hj : row[j]? = some (.v (.own c es 0 k k))) (hc : hdOf H β c = some ((β c).wt k)) : (β c).lo = 0 := by
  rcases hk.ro p _ hp with hr | ⟨q1, q2, q3, q4, q5⟩
  · rw [hr.2.1] at hi; simp at hi
  · obtain ⟨u, Sx, hx, _⟩ := q4.cell hi hj
    have := hx.val
    cases this with
    | own hl hh => exact Nat.le_zero.1 ((hh _ hc).2 rfl).1

theorem close_store {w : World} {β : Nat → Hd} {F : Nat → Prop} {H : Heap} {s : List Dom} {T : List (List Ce)} {rf rb : List Nat} {a b : Nat} (hk : HOK w.heap H β F)
    (h0 : H[0]? = some (.mem false rf [[.own a 4 0 s.length s.length, .own b 1 0 T.length T.length]])) (ha : H[a]? = some (.mem false [] (s.map Dom.row))) (hb : H[b]? = some (.tree rb T)) (hT : Ce.idsR T = [])
    (na : a ≠ 0) (nb : b ≠ 0) (nab : a ≠ b) (hlo : (β 0).lo = 0) : ∃ β' H2, Adv F w H β w H2 β' ∧ H2[0]? = some (St1 s T) ∧ H2.length = H.length := by
  obtain ⟨β1, a1⟩ := adv_toTree hk h0 hlo
  generalize hP : O.tree rf (flatC [[.own a 4 0 s.length s.length, .own b 1 0 T.length T.length]]) = P at a1
  have p1 : (H.set 0 P)[0]? = some (.tree rf [[.v (.own a 4 0 s.length s.length), .v (.own b 1 0 T.length T.length)]]) := by rw [get_set h0, ← hP]; rfl
  have q1 : (H.set 0 P)[a]? = some (.mem false [] (s.map Dom.row)) := by rw [getElem?_set_ne' na]; exact ha
  have r1 : (H.set 0 P)[b]? = some (.tree rb T) := by rw [getElem?_set_ne' nb]; exact hb
  have la : (β1 a).lo = 0 := lo_of_tree (i := 0) (j := 0) a1.hok p1 rfl rfl (by unfold hdOf; rw [q1]; simp)
  have hl1 : (H.set 0 P).length = H.length := List.length_set
  generalize H.set 0 P = H1 at a1 p1 q1 r1 hl1
  obtain ⟨β2, a2⟩ := adv_toTree a1.hok q1 la
  rw [← domCe_flat] at a2
  have p2 : (H1.set a (.tree [] (s.map domCe)))[0]? = some (.tree rf [[.v (.own a 4 0 s.length s.length), .v (.own b 1 0 T.length T.length)]]) := by rw [getElem?_set_ne' (Ne.symm na)]; exact p1
  have q2 : (H1.set a (.tree [] (s.map domCe)))[a]? = some (.tree [] (s.map domCe)) := get_set q1
  have r2 : (H1.set a (.tree [] (s.map domCe)))[b]? = some (.tree rb T) := by rw [getElem?_set_ne' (Ne.symm nab)]; exact r1
  have hl2 : (H1.set a (.tree [] (s.map domCe))).length = H.length := by rw [List.length_set]; exact hl1
  generalize H1.set a (.tree [] (s.map domCe)) = H2 at a2 p2 q2 r2 hl2
  obtain ⟨β3, a3⟩ := adv_pack (i := 0) (j := 0) a2.hok p2 q2 (Ne.symm na) rfl rfl (by simp)
  generalize hP3 : O.tree (rf ++ []) _ = P3 at a3
  have p3 : ((H2.set a O.dead).set 0 P3)[0]? = some (.tree (rf ++ []) [[.n 4 (s.map domCe), .v (.own b 1 0 T.length T.length)]]) := by rw [get_set (x := _) (by rw [getElem?_set_ne' (Ne.symm na)]; exact p2), ← hP3]; rfl
  have r3 : ((H2.set a O.dead).set 0 P3)[b]? = some (.tree rb T) := by rw [getElem?_set_ne' nb, getElem?_set_ne' (Ne.symm nab)]; exact r2
  have hl3 : ((H2.set a O.dead).set 0 P3).length = H.length := by rw [List.length_set, List.length_set]; exact hl2
  generalize (H2.set a O.dead).set 0 P3 = H3 at a3 p3 r3 hl3
  obtain ⟨β4, a4⟩ := adv_pack (i := 0) (j := 1) a3.hok p3 r3 (Ne.symm nb) rfl rfl rfl
  generalize hP4 : O.tree (rf ++ [] ++ rb) _ = P4 at a4
  have p4 : ((H3.set b O.dead).set 0 P4)[0]? = some (.tree (rf ++ [] ++ rb) [[.n 4 (s.map domCe), .n 1 T]]) := by rw [get_set (x := _) (by rw [getElem?_set_ne' (Ne.symm nb)]; exact p3), ← hP4]; rfl
  have hl4 : ((H3.set b O.dead).set 0 P4).length = H.length := by rw [List.length_set, List.length_set]; exact hl3
  generalize (H3.set b O.dead).set 0 P4 = H4 at a4 p4 hl4
  obtain ⟨β5, a5⟩ := adv_refsT (refs' := []) a4.hok p4 (by simp [Ce.idsR, Ce.idsL, Ce.ids, domCe_ids, hT])
  exact ⟨β5, _, a1.trans (a2.trans (a3.trans (a4.trans a5))), get_set p4, by rw [List.length_set]; exact hl4⟩
end Go.Abs.G


namespace Go.Abs.G
open Go.Proofs
set_option linter.unusedVariables false
set_option linter.unusedSimpArgs false
attribute [local simp] I.vc

theorem open_store {xs : List V} {s : List Dom} {T : List (List Ce)} (hT : Ce.idsR T = []) : Step xs [St1 s T] (U s T) := fun w β F vs hk hr => by
  obtain ⟨β1, a1⟩ := adv_unpack (id := 0) (i := 0) (j := 0) hk rfl rfl rfl
  replace a1 : Adv F w [St1 s T] β w [.tree [1] [[.v (.own 1 4 0 (s.map domCe).length (s.map domCe).length), .n 1 T]], .tree [] (s.map domCe)] β1 := a1
  rw [List.length_map] at a1
  obtain ⟨β2, a2⟩ := adv_unpack (id := 0) (i := 0) (j := 1) a1.hok rfl rfl rfl
  replace a2 : Adv F w [.tree [1] [[.v (.own 1 4 0 s.length s.length), .n 1 T]], .tree [] (s.map domCe)] β1 w [.tree [2, 1] [[.v (.own 1 4 0 s.length s.length), .v (.own 2 1 0 T.length T.length)]], .tree [] (s.map domCe), .tree [1] T] β2 := a2
  obtain ⟨β3, a3⟩ := adv_refsT (id := 2) (refs' := []) a2.hok rfl (by rw [hT]; simp)
  obtain ⟨β4, a4⟩ := adv_toMem (id := 1) (refs := []) (rows := s.map Dom.row) a3.hok (by rw [← domCe_flat]; rfl)
  obtain ⟨β5, a5⟩ := adv_refsT (id := 0) (refs' := [1, 2]) a4.hok rfl (by simp [Ce.idsR, Ce.idsL, Ce.ids, V.ids])
  obtain ⟨β6, a6⟩ := adv_toMem (id := 0) (refs := [1, 2]) (rows := [[.own 1 4 0 s.length s.length, .own 2 1 0 T.length T.length]]) a5.hok rfl
  exact ⟨β6, a1.trans (a2.trans (a3.trans (a4.trans (a5.trans a6))))⟩

/-- A contract on a store that lies open, as one on a store as one thing. -/
theorem DC.packed {P : Program} {f : FuncId} {ys : List V} {s : List Dom} {T : List (List Ce)} {Q : V → Prop} {S' : List Dom} {T' : List (List Ce)} (hT : Ce.idsR T = []) (hT' : Ce.idsR T' = [])
    (h : DC P f (.ptr 0 1 0 0 :: ys) (U s T) fun r H => Q r ∧ H = U S' T') (hq : ∀ r, Q r → r.ids = []) : DC P f (.ptr 0 1 0 0 :: ys) [St1 s T] fun r H => Q r ∧ H = [St1 S' T'] := by
  refine DC.trim (Q := fun r H => Q r ∧ H[0]? = some (St1 S' T')) ?_ ?_
  rotate_left
  · rintro r H ⟨h1, h2⟩
    refine ⟨1, by simp, by rw [hq r h1]; simp, h1, ?_⟩
    match H, h2 with
    | x :: tl, h2 =>
      simp at h2
      subst h2
      simp [St1, limO, O.refs]
  refine DC.pre (open_store hT) (DC.post' h ?_)
  rintro x H1 ⟨h1, rfl⟩ w β F vs hk hr
  obtain ⟨β', H2, a, h2, _⟩ := close_store (a := 1) (b := 2) (rb := []) hk U_0 U_1 U_2 hT' (by simp) (by simp) (by simp) (lo_arg (i := 1) hr rfl rfl)
  exact ⟨β', H2, a, h1, h2⟩
end Go.Abs.G


/- The reference's store: two owned lists whose rows are only read. -/
namespace Go.Abs.G
open Go.Proofs
set_option linter.unusedVariables false
set_option linter.unusedSimpArgs false
attribute [local simp] I.vc

def flR (D : List (List V)) : Prop := (∀ f, D.map (V.renL f) = D) ∧ Ce.idsR (flatC D) = []

def RS (D M : List (List V)) : Heap := [.mem false [1, 2] [[.own 1 1 0 D.length D.length, .own 2 1 0 M.length M.length]], .mem false [] D, .mem false [] M]
def R1 (D M : List (List V)) : O := .tree [] [[.n 1 (flatC D), .n 1 (flatC M)]]

theorem own_of_tree {w : World} {F : Nat → Prop} {β : Nat → Hd} {H : Heap} {p c i j es k : Nat} {refs refs2 : List Nat} {rows : List (List Ce)} {row : List Ce} {D : List (List V)} (hk : HOK w.heap H β F) (hp : H[p]? = some (.tree refs rows))
    (hi : rows[i]? = some row) (hj : row[j]? = some (.v (.own c es 0 k k))) (hc : H[c]? = some (.mem false refs2 D)) (hD : D.length = k) : (β c).lo = 0 :=
  lo_of_tree (i := i) (j := j) hk hp hi hj (by unfold hdOf; rw [hc]; simp [hD])

theorem close_R {w : World} {β : Nat → Hd} {F : Nat → Prop} {H : Heap} {D M : List (List V)} {rf : List Nat} {p a b : Nat} (hk : HOK w.heap H β F)
    (h0 : H[p]? = some (.mem false rf [[.own a 1 0 D.length D.length, .own b 1 0 M.length M.length]])) (ha : H[a]? = some (.mem false [] D)) (hb : H[b]? = some (.mem false [] M)) (hD : flR D) (hM : flR M)
    (na : a ≠ p) (nb : b ≠ p) (nab : a ≠ b) (hlo : (β p).lo = 0) : ∃ β' H2, Adv F w H β w H2 β' ∧ H2[p]? = some (R1 D M) ∧ H2.length = H.length ∧ ∀ q, q ≠ p → q ≠ a → q ≠ b → H2[q]? = H[q]? := by
  obtain ⟨β1, a1⟩ := adv_toTree hk h0 hlo
  generalize hP : O.tree rf (flatC [[.own a 1 0 D.length D.length, .own b 1 0 M.length M.length]]) = P at a1
  have p1 : (H.set p P)[p]? = some (.tree rf [[.v (.own a 1 0 D.length D.length), .v (.own b 1 0 M.length M.length)]]) := by rw [get_set h0, ← hP]; rfl
  have q1 : (H.set p P)[a]? = some (.mem false [] D) := by rw [getElem?_set_ne' na]; exact ha
  have r1 : (H.set p P)[b]? = some (.mem false [] M) := by rw [getElem?_set_ne' nb]; exact hb
  have la : (β1 a).lo = 0 := own_of_tree (i := 0) (j := 0) a1.hok p1 rfl rfl q1 rfl
  have hl1 : (H.set p P).length = H.length := List.length_set
  have s1 : ∀ q, q ≠ p → q ≠ a → q ≠ b → (H.set p P)[q]? = H[q]? := fun q h _ _ => getElem?_set_ne' h
  generalize H.set p P = H1 at a1 p1 q1 r1 hl1 s1
  obtain ⟨β2, a2⟩ := adv_toTree a1.hok q1 la
  have p2 : (H1.set a (.tree [] (flatC D)))[p]? = some (.tree rf [[.v (.own a 1 0 D.length D.length), .v (.own b 1 0 M.length M.length)]]) := by rw [getElem?_set_ne' (Ne.symm na)]; exact p1
  have q2 : (H1.set a (.tree [] (flatC D)))[a]? = some (.tree [] (flatC D)) := get_set q1
  have r2 : (H1.set a (.tree [] (flatC D)))[b]? = some (.mem false [] M) := by rw [getElem?_set_ne' (Ne.symm nab)]; exact r1
  have hl2 : (H1.set a (.tree [] (flatC D))).length = H.length := by rw [List.length_set]; exact hl1
  have s2 : ∀ q, q ≠ p → q ≠ a → q ≠ b → (H1.set a (.tree [] (flatC D)))[q]? = H[q]? := fun q h h' h2 => by rw [getElem?_set_ne' h']; exact s1 q h h' h2
  generalize H1.set a (.tree [] (flatC D)) = H2 at a2 p2 q2 r2 hl2 s2
  have lb : (β2 b).lo = 0 := own_of_tree (i := 0) (j := 1) a2.hok p2 rfl rfl r2 rfl
  obtain ⟨β2', a2'⟩ := adv_toTree a2.hok r2 lb
  have p2' : (H2.set b (.tree [] (flatC M)))[p]? = some (.tree rf [[.v (.own a 1 0 D.length D.length), .v (.own b 1 0 M.length M.length)]]) := by rw [getElem?_set_ne' (Ne.symm nb)]; exact p2
  have q2' : (H2.set b (.tree [] (flatC M)))[a]? = some (.tree [] (flatC D)) := by rw [getElem?_set_ne' nab]; exact q2
  have r2' : (H2.set b (.tree [] (flatC M)))[b]? = some (.tree [] (flatC M)) := get_set r2
  have hl2' : (H2.set b (.tree [] (flatC M))).length = H.length := by rw [List.length_set]; exact hl2
  have s2' : ∀ q, q ≠ p → q ≠ a → q ≠ b → (H2.set b (.tree [] (flatC M)))[q]? = H[q]? := fun q h h' h2 => by rw [getElem?_set_ne' h2]; exact s2 q h h' h2
  generalize H2.set b (.tree [] (flatC M)) = H2' at a2' p2' q2' r2' hl2' s2'
  obtain ⟨β3, a3⟩ := adv_pack (i := 0) (j := 0) a2'.hok p2' q2' (Ne.symm na) rfl rfl (by simp [flatC])
  generalize hP3 : O.tree (rf ++ []) _ = P3 at a3
  have p3 : ((H2'.set a O.dead).set p P3)[p]? = some (.tree (rf ++ []) [[.n 1 (flatC D), .v (.own b 1 0 M.length M.length)]]) := by rw [get_set (x := _) (by rw [getElem?_set_ne' (Ne.symm na)]; exact p2'), ← hP3]; rfl
  have r3 : ((H2'.set a O.dead).set p P3)[b]? = some (.tree [] (flatC M)) := by rw [getElem?_set_ne' nb, getElem?_set_ne' (Ne.symm nab)]; exact r2'
  have hl3 : ((H2'.set a O.dead).set p P3).length = H.length := by rw [List.length_set, List.length_set]; exact hl2'
  have s3 : ∀ q, q ≠ p → q ≠ a → q ≠ b → ((H2'.set a O.dead).set p P3)[q]? = H[q]? := fun q h h' h2 => by rw [getElem?_set_ne' h, getElem?_set_ne' h']; exact s2' q h h' h2
  generalize (H2'.set a O.dead).set p P3 = H3 at a3 p3 r3 hl3 s3
  obtain ⟨β4, a4⟩ := adv_pack (i := 0) (j := 1) a3.hok p3 r3 (Ne.symm nb) rfl rfl (by simp [flatC])
  generalize hP4 : O.tree (rf ++ [] ++ []) _ = P4 at a4
  have p4 : ((H3.set b O.dead).set p P4)[p]? = some (.tree (rf ++ [] ++ []) [[.n 1 (flatC D), .n 1 (flatC M)]]) := by rw [get_set (x := _) (by rw [getElem?_set_ne' (Ne.symm nb)]; exact p3), ← hP4]; rfl
  have hl4 : ((H3.set b O.dead).set p P4).length = H.length := by rw [List.length_set, List.length_set]; exact hl3
  have s4 : ∀ q, q ≠ p → q ≠ a → q ≠ b → ((H3.set b O.dead).set p P4)[q]? = H[q]? := fun q h h' h2 => by rw [getElem?_set_ne' h, getElem?_set_ne' h2]; exact s3 q h h' h2
  generalize (H3.set b O.dead).set p P4 = H4 at a4 p4 hl4 s4
  obtain ⟨β5, a5⟩ := adv_refsT (refs' := []) a4.hok p4 (by simp [Ce.idsR, Ce.idsL, Ce.ids, hD.2, hM.2])
  exact ⟨β5, _, a1.trans (a2.trans (a2'.trans (a3.trans (a4.trans a5)))), get_set p4, by rw [List.length_set]; exact hl4, fun q h h' h2 => by rw [getElem?_set_ne' h]; exact s4 q h h' h2⟩

theorem open_R {xs : List V} {D M : List (List V)} (hD : flR D) (hM : flR M) : Step xs [R1 D M] (RS D M) := fun w β F vs hk hr => by
  obtain ⟨β1, a1⟩ := adv_unpack (id := 0) (i := 0) (j := 0) hk rfl rfl rfl
  replace a1 : Adv F w [R1 D M] β w [.tree [1] [[.v (.own 1 1 0 (flatC D).length (flatC D).length), .n 1 (flatC M)]], .tree [] (flatC D)] β1 := a1
  rw [flatC_length] at a1
  obtain ⟨β2, a2⟩ := adv_unpack (id := 0) (i := 0) (j := 1) a1.hok rfl rfl rfl
  replace a2 : Adv F w [.tree [1] [[.v (.own 1 1 0 D.length D.length), .n 1 (flatC M)]], .tree [] (flatC D)] β1 w [.tree [2, 1] [[.v (.own 1 1 0 D.length D.length), .v (.own 2 1 0 (flatC M).length (flatC M).length)]], .tree [] (flatC D), .tree [1] (flatC M)] β2 := a2
  rw [flatC_length] at a2
  obtain ⟨β3, a3⟩ := adv_refsT (id := 2) (refs' := []) a2.hok rfl (by rw [hM.2]; simp)
  obtain ⟨β3', a3'⟩ := adv_toMem (id := 2) (refs := []) (rows := M) a3.hok rfl
  obtain ⟨β4, a4⟩ := adv_toMem (id := 1) (refs := []) (rows := D) a3'.hok rfl
  obtain ⟨β5, a5⟩ := adv_refsT (id := 0) (refs' := [1, 2]) a4.hok rfl (by simp [Ce.idsR, Ce.idsL, Ce.ids, V.ids])
  obtain ⟨β6, a6⟩ := adv_toMem (id := 0) (refs := [1, 2]) (rows := [[.own 1 1 0 D.length D.length, .own 2 1 0 M.length M.length]]) a5.hok rfl
  exact ⟨β6, a1.trans (a2.trans (a3.trans (a3'.trans (a4.trans (a5.trans a6)))))⟩

theorem DC.packedR {P : Program} {f : FuncId} {ys : List V} {D M : List (List V)} {Q : V → Prop} {D' M' : List (List V)} (hD : flR D) (hM : flR M) (hD' : flR D') (hM' : flR M')
    (h : DC P f (.ptr 0 1 0 0 :: ys) (RS D M) fun r H => Q r ∧ H = RS D' M') (hq : ∀ r, Q r → r.ids = []) : DC P f (.ptr 0 1 0 0 :: ys) [R1 D M] fun r H => Q r ∧ H = [R1 D' M'] := by
  refine DC.trim (Q := fun r H => Q r ∧ H[0]? = some (R1 D' M')) ?_ ?_
  rotate_left
  · rintro r H ⟨h1, h2⟩
    refine ⟨1, by simp, by rw [hq r h1]; simp, h1, ?_⟩
    match H, h2 with
    | x :: tl, h2 =>
      simp at h2
      subst h2
      simp [R1, limO, O.refs]
  refine DC.pre (open_R hD hM) (DC.post' h ?_)
  rintro x H1 ⟨h1, rfl⟩ w β F vs hk hr
  obtain ⟨β', H2, a, h2, _⟩ := close_R (p := 0) (a := 1) (b := 2) hk rfl rfl rfl hD' hM' (by simp) (by simp) (by simp) (lo_arg (i := 1) hr rfl rfl)
  exact ⟨β', H2, a, h1, h2⟩

section
variable {D M D' M' : List (List V)} {E : Heap}
@[simp] theorem RS_len : (RS D M).length = 3 := rfl
@[simp] theorem RS_0 : (RS D M)[0]? = some (.mem false [1, 2] [[.own 1 1 0 D.length D.length, .own 2 1 0 M.length M.length]]) := rfl
@[simp] theorem RS_1 : (RS D M)[1]? = some (.mem false [] D) := rfl
@[simp] theorem RS_2 : (RS D M)[2]? = some (.mem false [] M) := rfl
@[simp] theorem RSE_0 : (RS D M ++ E)[0]? = some (.mem false [1, 2] [[.own 1 1 0 D.length D.length, .own 2 1 0 M.length M.length]]) := rfl
@[simp] theorem RSE_1 : (RS D M ++ E)[1]? = some (.mem false [] D) := rfl
@[simp] theorem RSE_2 : (RS D M ++ E)[2]? = some (.mem false [] M) := rfl
@[simp] theorem RSE_0' (h) : (RS D M ++ E)[0]'h = .mem false [1, 2] [[.own 1 1 0 D.length D.length, .own 2 1 0 M.length M.length]] := rfl
@[simp] theorem RSE_1' (h) : (RS D M ++ E)[1]'h = .mem false [] D := rfl
@[simp] theorem RSE_2' (h) : (RS D M ++ E)[2]'h = .mem false [] M := rfl
@[simp] theorem RS_0' (h) : (RS D M)[0]'h = .mem false [1, 2] [[.own 1 1 0 D.length D.length, .own 2 1 0 M.length M.length]] := rfl
@[simp] theorem RS_1' (h) : (RS D M)[1]'h = .mem false [] D := rfl
@[simp] theorem RS_2' (h) : (RS D M)[2]'h = .mem false [] M := rfl
@[simp] theorem RSE_3 (a : O) : (RS D M ++ (a :: E))[3]? = some a := rfl
@[simp] theorem RSE_3' (a : O) (h) : (RS D M ++ (a :: E))[3]'h = a := rfl
@[simp] theorem RSE_4 (a b : O) : (RS D M ++ (a :: b :: E))[4]? = some b := rfl
@[simp] theorem RSE_4' (a b : O) (h) : (RS D M ++ (a :: b :: E))[4]'h = b := rfl
@[simp] theorem RSE_5 (a b c : O) : (RS D M ++ (a :: b :: c :: E))[5]? = some c := rfl
@[simp] theorem RSE_5' (a b c : O) (h) : (RS D M ++ (a :: b :: c :: E))[5]'h = c := rfl
@[simp] theorem RSE_set3 (a o : O) : (RS D M ++ (a :: E)).set 3 o = RS D M ++ (o :: E) := rfl
@[simp] theorem RSE_set4 (a b o : O) : (RS D M ++ (a :: b :: E)).set 4 o = RS D M ++ (a :: o :: E) := rfl
@[simp] theorem RSE_set5 (a b c o : O) : (RS D M ++ (a :: b :: c :: E)).set 5 o = RS D M ++ (a :: b :: o :: E) := rfl
theorem RSE_set1 (D' : List (List V)) (h : D'.length = D.length) : (RS D M ++ E).set 1 (.mem false [] D') = RS D' M ++ E := by unfold RS; rw [h]; rfl
@[simp] theorem RS_lim (n : Nat) (h : 3 ≤ n) : (RS D M).map (limO n) = RS D M := by
  have h1 : 1 < n := by omega
  have h2 : 2 < n := by omega
  simp [RS, limO, O.refs, h1, h2]
@[simp] theorem RS_take3 : List.take 3 (RS D M) = RS D M := rfl
theorem RSE_take (n : Nat) : (RS D M ++ E).take (n + 3) = RS D M ++ E.take n := by simp [RS]
@[simp] theorem RS_clos : clos (RS D M) 8 [0] = [0, 1, 2] := by simp [clos, addAll, O.refs, RS]
@[simp] theorem RSE_clos : clos (RS D M ++ E) 8 [0] = [0, 1, 2] := by simp [clos, addAll, O.refs, RS]
theorem RS_ren (f : Nat → Nat) (h1 : f 1 = 1) (h2 : f 2 = 2) (hD : flR D) (hM : flR M) : (RS D M).map (O.ren f) = RS D M := by
  simp [RS, O.ren, V.renL, V.ren, h1, h2, hD.1, hM.1]
theorem RSE_sub (hD : flR D) (hM : flR M) : sub (RS D M ++ E) [0, 1, 2] = RS D M := RS_ren (idx [0, 1, 2]) rfl rfl hD hM
theorem RSE_merge (hD : flR D') (hM : flR M') : merge (RS D M ++ E) [0, 1, 2] (RS D' M') = RS D' M' ++ E := by
  have h := RS_ren (D := D') (M := M') (back [0, 1, 2] (RS D M ++ E).length) rfl rfl hD hM
  have h1 : (RS D' M').take 3 = RS D' M' := rfl
  have h2 : (RS D' M').drop 3 = [] := rfl
  simp only [merge, List.length_cons, List.length_nil, Nat.zero_add, Nat.reduceAdd, h1, h2, h, List.map_nil, List.append_nil]
  rfl
theorem RSE_sel : OkSel (RS D M ++ E) [0, 1, 2] := by simp [OkSel, O.refs, RS]
end

/-- A list of lists, and marks of it. -/
def dR (d : List (List Int)) : List (List V) := d.map fun l => [vInts l]
def mR (ms : List (List (List Int))) : List (List V) := ms.map fun d => [vIntss d]
theorem flatC_ids : ∀ (D : List (List V)), (∀ r ∈ D, V.idsL r = []) → Ce.idsR (flatC D) = []
  | [], _ => rfl
  | r :: D, h => by
    have hr : ∀ (r : List V), Ce.idsL (r.map Ce.v) = V.idsL r := fun r => by
      induction r with
      | nil => rfl
      | cons x r ih => simp [Ce.idsL, Ce.ids, V.idsL, ih]
    have := flatC_ids D (fun r' h' => h r' (by simp [h']))
    simp only [flatC] at this
    simp [flatC, Ce.idsR, hr, h r (by simp), this]
theorem fl_dR (d : List (List Int)) : flR (dR d) := ⟨fun f => by simp [dR, V.renL, V.ren, vInts, Function.comp_def], flatC_ids _ fun r hr => by
  simp only [dR, List.mem_map] at hr
  obtain ⟨l, _, rfl⟩ := hr
  rfl⟩
theorem fl_mR (ms : List (List (List Int))) : flR (mR ms) := ⟨fun f => by simp [mR, V.renL, V.ren, vIntss, Function.comp_def], flatC_ids _ fun r hr => by
  simp only [mR, List.mem_map] at hr
  obtain ⟨l, _, rfl⟩ := hr
  rfl⟩
@[simp] theorem dR_len (d : List (List Int)) : (dR d).length = d.length := by simp [dR]
@[simp] theorem mR_len (ms : List (List (List Int))) : (mR ms).length = ms.length := by simp [mR]
end Go.Abs.G


namespace Go.Abs
set_option linter.unusedVariables false

/-- A slice cut short lies in no more blocks. -/
theorem TR.take {c : Cx} {refs : List Nat} {S : Nat → Prop} {ad : Addr} {n cap es : Nat} {rows : List (List Ce)} (l : Nat) (h : TR c refs S (.slice (some ad) n cap) (.n es rows)) (hl : l ≤ rows.length) :
    ∃ S', (∀ k, S' k → S k) ∧ TR c refs S' (.slice (some ad) l cap) (.n es (rows.take l)) := by
  have hn : n = rows.length := by cases h <;> rfl
  subst hn
  by_cases hne : rows = []
  · subst hne
    obtain rfl : l = 0 := by simpa using hl
    exact ⟨S, fun _ h => h, by simpa using h⟩
  obtain ⟨b, o, cs, E, g, T, had, hb, hcap, hsz, hlen, hg, hr, hT, hS, hd, hd2⟩ := h.inv (.inl hne)
  have hlt : (rows.take l).length = l := by rw [List.length_take]; omega
  have hget : ∀ {i : Nat} {row : List Ce}, (rows.take l)[i]? = some row → i < l ∧ rows[i]? = some row := fun {i row} h => by
    rw [List.getElem?_take] at h
    split at h
    · next q => exact ⟨q, h⟩
    · cases h
  refine ⟨fun k => k = b ∨ ∃ i j, i < l ∧ T i j k, fun k hk => (hS k).2 (hk.imp id fun ⟨i, j, _, e⟩ => ⟨i, j, e⟩), ?_⟩
  have := TR.n (c := c) (refs := refs) (S := fun k => k = b ∨ ∃ i j, i < l ∧ T i j k) had cs E g (fun i j k => i < l ∧ T i j k) hb (by rw [hlt]; omega) hsz (fun i row h => hlen i row (hget h).2) (fun i row h j x hx => hg i row (hget h).2 j x hx)
    (fun i row h j x hx => (hr i row (hget h).2 j x hx).congr fun k => ⟨fun e => ⟨(hget h).1, e⟩, fun e => e.2⟩)
    (fun i j k h => by
      obtain ⟨row, x, h1, h2⟩ := hT i j k h.2
      exact ⟨row, x, by rw [List.getElem?_take, if_pos h.1]; exact h1, h2⟩)
    (fun k => Iff.rfl) (fun i j h => hd i j h.2) (fun i j i' j' k h h' => hd2 i j i' j' k h.2 h'.2)
  rw [hlt] at this
  exact this
end Go.Abs

namespace Go.Abs
set_option linter.unusedVariables false
section
variable {w : World} {β : Nat → Hd} {F : Nat → Prop} {H : Heap}

end
end Go.Abs

namespace Go.Abs.G
open Go.Proofs
set_option linter.unusedVariables false
-- hallmark/hallmarkref11.own
def hallmarkref11_ownF.ann : List (Nat × RA) := [(0, { gs := [], keep := some [0] }), (1, { gs := [], keep := some [0, 3] }), (2, { gs := [], keep := some [0, 3, 4] }), (3, { gs := [], keep := some [0, 3, 4, 8] }), (4, { gs := [], keep := some [0, 3, 4] }), (5, { gs := [(6, [.frz 16, .nilv 16 1])], keep := some [0, 3, 4], aps := [(6, [1000004])] }), (6, { gs := [(0, [.frz 3, .nilv 3 1])], keep := some [2] })]
def hallmarkref11_ownF.b0 : C := .seq (.seq (.reg 0 [.o 0 (.lt (some 5) (.mov (.tmp 4))),
    .o 1 (.lt (some 6) (.mov (.tmp 0))),
    .o 2 (.lt (some 7) (.lenSl (.tmp 6))),
    .o 3 (.lt (some 8) (.bin .lss (.tmp 5) (.tmp 7))),
    .g (.keep [0, 3, 4, 8])]) (.cond (.tmp 8) (.skip) (.exit 0))) (.seq (.block 1 (.reg 3 [.o 0 (.lt (some 11) (.mov (.tmp 3))),
    .o 1 (.lt (some 12) (.mov (.tmp 0))),
    .o 2 (.lt (some 13) (.mov (.tmp 4))),
    .o 3 (.lt (some 14) (.ixS 1 (.tmp 12) (.tmp 13))),
    .o 4 (.lt (some 15) (.ld false 1 (.tmp 14))),
    .o 5 (.app [] (some 16) 0 1 8 (.const (.slice none 0 0)) (.tmp 15)),
    .g (.frz 16),
    .g (.nilv 16 1),
    .o 6 (.bsv (some 17) 1 1 [.a (.slice none 0 0)] [(0, (.tmp 16))]),
    .o 7 (.app [] (some 18) 2 1 24 (.tmp 11) (.tmp 17)),
    .o 8 (.lt (some 3) (.mov (.tmp 18))),
    .g (.keep [0, 3, 4])])) (.reg 0 [.o 0 (.lt (some 9) (.mov (.tmp 4))),
    .o 1 (.lt (some 10) (.bin .add (.tmp 9) (.const (.int .i64 1)))),
    .o 2 (.lt (some 4) (.mov (.tmp 10))),
    .g (.keep [0, 3, 4])]))
def hallmarkref11_ownF.rs : List Rs := [.sl 2]
end Go.Abs.G


/- What the reference's look at a problem tells: the same. -/
namespace Go.Abs
set_option linter.unusedVariables false

def listsB (k : Int) : Bool := decide (k = 3) || decide (k = 5) || decide (k = 6) || decide (k = 8) || decide (k = 9)
def manyB (n : Nat) : Bool := decide (n < 1) || decide (64 < n)
def foreignB (c : Con) : Bool :=
  if (decide (c.kind ≠ 9) && decide (c.v ≠ 0)) || (decide (c.kind ≠ 8) && decide (0 < c.rows.length)) then true
  else (decide (c.kind ≠ 1) && decide (c.kind ≠ 9) && decide (c.op ≠ 0)) || (!(decide (c.kind = 1) || decide (c.kind = 7)) && decide (0 < c.terms.length)) ||
    (!(decide (c.kind = 1) || decide (c.kind = 7)) && decide (c.kind ≠ 2) && decide (c.kind ≠ 9) && decide (c.k ≠ 0)) ||
    (decide (c.kind ≠ 2) && decide (c.kind ≠ 4) && decide (c.kind ≠ 7) && decide (c.x ≠ 0)) ||
    ((decide (c.kind = 1) || decide (c.kind = 7) || (listsB c.kind && decide (c.kind ≠ 5) && decide (c.kind ≠ 6))) && decide (c.y ≠ 0)) ||
    (!listsB c.kind && decide (0 < c.xs.length)) || (decide (c.kind ≠ 4) && decide (0 < c.table.length))
def rowsR (c : Con) : Bool := !(decide (8 < c.xs.length) || manyB c.rows.length) && c.rows.all fun r => decide (r.length = c.xs.length)
def termsR (l : List Term) (n : Int) : Int := if badVarB n l then 44 else if badCoefB l then 45 else 0
def placeR (x n : Int) : Bool := decide (0 ≤ x) && decide (x < n)
def placesR (c : Con) (n : Int) : Bool := placeR c.x n && placeR c.y n && c.xs.all fun x => placeR x n
def conR (c : Con) (n : Int) : Int :=
  if decide (c.kind < 1) || decide (9 < c.kind) || ((decide (c.kind = 1) || decide (c.kind = 9)) && (decide (c.op < 1) || decide (3 < c.op))) then 43
  else if foreignB c then 48
  else if ((decide (c.kind = 1) || decide (c.kind = 7)) && manyB c.terms.length) || (listsB c.kind && manyB c.xs.length) || (decide (c.kind = 4) && manyB c.table.length) || (decide (c.kind = 8) && !rowsR c) then 47
  else if !placesR c n || decide (termsR c.terms n = 44) then 44
  else if termsR c.terms n ≠ 0 then termsR c.terms n
  else if !withinB c.k 1000000000 || !withinB c.v 1000000000 then 46
  else if c.rows.any greatB then 46
  else if greatB c.table then 46
  else 0

theorem noB_place (n x : Int) : noB n x = !placeR x n := by
  unfold noB placeR
  rw [Bool.eq_iff_iff]; simp
  try omega
theorem any_place (n : Int) (l : List Int) : (l.any (noB n)) = !(l.all fun x => placeR x n) := by
  induction l with
  | nil => rfl
  | cons a l ih => simp [ih, noB_place]
theorem wide_rows (c : Con) : (decide (8 < c.xs.length) || !countsB true c.rows.length || c.rows.any fun r => decide (r.length ≠ c.xs.length)) = !rowsR c := by
  unfold rowsR manyB countsB
  have : (c.rows.any fun r => decide (r.length ≠ c.xs.length)) = !(c.rows.all fun r => decide (r.length = c.xs.length)) := by
    rw [Bool.eq_iff_iff]; simp
  rw [this]
  generalize (c.rows.all fun r => decide (r.length = c.xs.length)) = b
  rw [Bool.eq_iff_iff]
  cases b <;> simp <;> omega

theorem conR_eq (c : Con) (n : Int) (hn : 0 < n) : conR c n = conB c n := by
  unfold conB conR needs
  by_cases hk : c.kind < 1 ∨ 9 < c.kind
  · have : (decide (c.kind < 1) || decide (9 < c.kind) || ((decide (c.kind = 1) || decide (c.kind = 9)) && (decide (c.op < 1) || decide (3 < c.op)))) = true := by
      rcases hk with h | h <;> simp [h]
    rw [if_pos this]
    have h1 : c.kind ≠ 1 ∧ c.kind ≠ 2 ∧ c.kind ≠ 3 ∧ c.kind ≠ 4 ∧ c.kind ≠ 5 ∧ c.kind ≠ 6 ∧ c.kind ≠ 7 ∧ c.kind ≠ 8 ∧ c.kind ≠ 9 := by omega
    simp [h1]
  · have hks : c.kind = 1 ∨ c.kind = 2 ∨ c.kind = 3 ∨ c.kind = 4 ∨ c.kind = 5 ∨ c.kind = 6 ∨ c.kind = 7 ∨ c.kind = 8 ∨ c.kind = 9 := by omega
    have hT : (termsR c.terms n = 44) ↔ badVarB n c.terms = true := by
      unfold termsR; cases badVarB n c.terms <;> cases badCoefB c.terms <;> simp
    have hX := noB_place n c.x
    have hY := noB_place n c.y
    have hXs := any_place n c.xs
    have hW := wide_rows c
    have p0 : placeR 0 n = true := by simp [placeR]; omega
    unfold conN placesR
    rw [hX, hY, hXs]
    simp only [wideB, hW]
    simp only [hT]
    unfold termsR fieldB foreignB listsB manyB countsB
    generalize badVarB n c.terms = A
    generalize badCoefB c.terms = B
    generalize (c.xs.all fun x => placeR x n) = D
    generalize greatB c.table = G
    generalize c.rows.any greatB = R
    generalize rowsR c = W
    generalize withinB c.k 1000000000 = K1
    generalize withinB c.v 1000000000 = K2
    rcases hks with h | h | h | h | h | h | h | h | h
    · simp [h]
      grind
    all_goals (simp [h]; try grind)
end Go.Abs

namespace Go.Abs.G
open Go.Proofs
attribute [local simp] I.vc sub merge place
set_option linter.unusedVariables false

theorem within_spec (n most : Int) (h0 : 0 ≤ most) (h1 : most ≤ 9223372036854775807) : Pf Tryz.prog model_within.id [V.i n, V.i most] (.bool (withinB n most)) := by
  refine DC.of model_within.ok (by simp) ?_
  have hw : IntKind.i64.wrap (-most) = -most := wrap64 (by omega) (by omega)
  simp [model_within.ir, model_within.rs, hw, withinB]
  by_cases h : -most ≤ n <;> simp [h] <;> omega

theorem great1_spec (n : Int) : Pf Tryz.prog model_great_1.id [V.i n] (.bool (!withinB n 1000000000)) := by
  refine DC.of model_great_1.ok (by simp) ?_
  simp [model_great_1.ir, model_great_1.rs]
  exact (within_spec n 1000000000 (by decide) (by decide)).use (by simp)

/-- The place of the first of which something is told. -/
def firstAt {α : Type} (p : α → Bool) : Nat → List α → Int
  | _, [] => -1
  | i, x :: l => if p x then i else firstAt p (i + 1) l

theorem firstAt_any {α : Type} (p : α → Bool) : ∀ (l : List α) (i : Nat), decide (0 ≤ firstAt p i l) = l.any p := by
  intro l
  induction l with
  | nil => intro i; simp [firstAt]
  | cons x l ih =>
    intro i
    simp only [firstAt, List.any_cons]
    by_cases h : p x = true
    · simp [h]
    · simp [h, ih]

theorem firstAt_drop {α : Type} (p : α → Bool) {l : List α} {i : Nat} (h : i < l.length) : firstAt p i (l.drop i) = if p l[i] then (i : Int) else firstAt p (i + 1) (l.drop (i + 1)) := by
  rw [List.drop_eq_getElem_cons h]; rfl

theorem index_int_spec {f : FuncId} {cap : List V} {p : Int → Bool} {l : List Int} (hok : okFunc Tryz.prog f = true) (hids : V.idsL cap = []) (hg : ∀ t ∈ l, DP Tryz.prog f (V.i t :: cap) fun r => r = .bool (p t)) (hl : l.length ≤ maxLen) :
    Pf Tryz.prog slices_IndexFunc_Lint_int.id [vInts l, .fn (.func f) [] cap] (V.i (firstAt p 0 l)) := by
  have hm : (maxLen : Int) ≤ 9223372036854775807 := by decide
  refine DC.of slices_IndexFunc_Lint_int.ok (by simp) ?_
  simp [slices_IndexFunc_Lint_int.ir, slices_IndexFunc_Lint_int.rs, vInts]
  refine WI.loop 0 (by simp) (fun s => ∃ i, i ≤ l.length ∧ gt s.sl 1 = .fn (.func f) [] cap ∧ gt s.sl 0 = vInts l ∧ gt s.sl 7 = V.i l.length ∧ gt s.sl 8 = V.i i ∧ s.hp = [] ∧ firstAt p 0 l = firstAt p i (l.drop i)) (fun s => (l.length - (gt s.sl 8).num).toNat) ?_ ?_
  · exact ⟨0, by simp [vInts]⟩
  · rintro ⟨sl, hp, bs⟩ ⟨i, hi, h1, h0, h7, h8, rfl, he⟩
    by_cases hil : i < l.length
    · simp [slices_IndexFunc_Lint_int.b0, h1, h0, h7, h8, vInts, hil, hok, hids]
      refine DP.mono (hg _ (List.getElem_mem hil)) fun r hr => ?_
      subst hr
      rw [firstAt_drop p hil] at he
      have hw : IntKind.i64.wrap ((i : Int) + 1) = ((i + 1 : Nat) : Int) := by rw [wrap64] <;> omega
      cases hp : p l[i]
      · simp [hw, he, hp]
        exact ⟨⟨i + 1, by omega, by omega, rfl⟩, by omega⟩
      · simp [he, hp]
    · obtain rfl : i = l.length := by omega
      simp [slices_IndexFunc_Lint_int.b0, h1, h0, h7, h8, he, firstAt]

theorem contains_int_spec {f : FuncId} {cap : List V} {p : Int → Bool} {l : List Int} (hok : okFunc Tryz.prog f = true) (hids : V.idsL cap = []) (hg : ∀ t ∈ l, DP Tryz.prog f (V.i t :: cap) fun r => r = .bool (p t)) (hl : l.length ≤ maxLen) :
    Pf Tryz.prog slices_ContainsFunc_Lint_int.id [vInts l, .fn (.func f) [] cap] (.bool (l.any p)) := by
  refine DC.of slices_ContainsFunc_Lint_int.ok (by simp) ?_
  simp [slices_ContainsFunc_Lint_int.ir, slices_ContainsFunc_Lint_int.rs, vInts, hids]
  refine (index_int_spec hok hids hg hl).use ?_
  simp [firstAt_any]

theorem great_spec (l : List Int) (hl : l.length ≤ maxLen) : Pf Tryz.prog model_great.id [vInts l] (.bool (greatB l)) := by
  refine DC.of model_great.ok (by simp) ?_
  simp [model_great.ir, model_great.rs, vInts]
  refine (contains_int_spec (by simp) (by simp) (fun t _ => great1_spec t) hl).use ?_
  simp [greatB]

theorem counts_spec (b : Bool) (n : Nat) : Pf Tryz.prog model_counts.id [.bool b, V.i n] (.bool (countsB b n)) := by
  refine DC.of model_counts.ok (by simp) ?_
  simp [model_counts.ir, model_counts.rs, countsB]
  cases b <;> by_cases h : 1 ≤ n <;> simp [h] <;> omega

end Go.Abs.G



namespace Go.Abs.G
open Go.Proofs
attribute [local simp] I.vc sub merge place
set_option linter.unusedVariables false
theorem index_ints_spec {f : FuncId} {cap : List V} {p : List Int → Bool} {l : List (List Int)} (hok : okFunc Tryz.prog f = true) (hids : V.idsL cap = []) (hg : ∀ t ∈ l, DP Tryz.prog f (vInts t :: cap) fun r => r = .bool (p t)) (hl : l.length ≤ maxLen) :
    Pf Tryz.prog slices_IndexFunc_LLint_Lint.id [vIntss l, .fn (.func f) [] cap] (V.i (firstAt p 0 l)) := by
  have hm : (maxLen : Int) ≤ 9223372036854775807 := by decide
  refine DC.of slices_IndexFunc_LLint_Lint.ok (by simp) ?_
  simp [slices_IndexFunc_LLint_Lint.ir, slices_IndexFunc_LLint_Lint.rs, vIntss]
  refine WI.loop 0 (by simp) (fun s => ∃ i, i ≤ l.length ∧ gt s.sl 1 = .fn (.func f) [] cap ∧ gt s.sl 0 = vIntss l ∧ gt s.sl 7 = V.i l.length ∧ gt s.sl 8 = V.i i ∧ s.hp = [] ∧ firstAt p 0 l = firstAt p i (l.drop i)) (fun s => (l.length - (gt s.sl 8).num).toNat) ?_ ?_
  · exact ⟨0, by simp [vIntss]⟩
  · rintro ⟨sl, hp, bs⟩ ⟨i, hi, h1, h0, h7, h8, rfl, he⟩
    by_cases hil : i < l.length
    · simp [slices_IndexFunc_LLint_Lint.b0, h1, h0, h7, h8, vIntss, vInts, hil, hok, hids]
      refine DP.mono (hg _ (List.getElem_mem hil)) fun r hr => ?_
      subst hr
      rw [firstAt_drop p hil] at he
      have hw : IntKind.i64.wrap ((i : Int) + 1) = ((i + 1 : Nat) : Int) := by rw [wrap64] <;> omega
      cases hp : p l[i]
      · simp [hw, he, hp]
        exact ⟨⟨i + 1, by omega, by omega, rfl⟩, by omega⟩
      · simp [he, hp]
    · obtain rfl : i = l.length := by omega
      simp [slices_IndexFunc_LLint_Lint.b0, h1, h0, h7, h8, he, firstAt]

theorem contains_ints_spec {f : FuncId} {cap : List V} {p : List Int → Bool} {l : List (List Int)} (hok : okFunc Tryz.prog f = true) (hids : V.idsL cap = []) (hg : ∀ t ∈ l, DP Tryz.prog f (vInts t :: cap) fun r => r = .bool (p t)) (hl : l.length ≤ maxLen) :
    Pf Tryz.prog slices_ContainsFunc_LLint_Lint.id [vIntss l, .fn (.func f) [] cap] (.bool (l.any p)) := by
  refine DC.of slices_ContainsFunc_LLint_Lint.ok (by simp) ?_
  simp [slices_ContainsFunc_LLint_Lint.ir, slices_ContainsFunc_LLint_Lint.rs, vIntss, hids]
  refine (index_ints_spec hok hids hg hl).use ?_
  simp [firstAt_any]

theorem index_var_spec {f : FuncId} {cap : List V} {p : Var → Bool} {l : List (Var)} (hok : okFunc Tryz.prog f = true) (hids : V.idsL cap = []) (hg : ∀ t ∈ l, DP Tryz.prog f (.agg t.cells :: cap) fun r => r = .bool (p t)) (hl : l.length ≤ maxLen) :
    Pf Tryz.prog slices_IndexFunc_Lapi_Var_api_Var.id [vVars l, .fn (.func f) [] cap] (V.i (firstAt p 0 l)) := by
  have hm : (maxLen : Int) ≤ 9223372036854775807 := by decide
  refine DC.of slices_IndexFunc_Lapi_Var_api_Var.ok (by simp) ?_
  simp [slices_IndexFunc_Lapi_Var_api_Var.ir, slices_IndexFunc_Lapi_Var_api_Var.rs, vVars]
  refine WI.loop 0 (by simp) (fun s => ∃ i, i ≤ l.length ∧ gt s.sl 1 = .fn (.func f) [] cap ∧ gt s.sl 0 = vVars l ∧ gt s.sl 7 = V.i l.length ∧ gt s.sl 8 = V.i i ∧ s.hp = [] ∧ firstAt p 0 l = firstAt p i (l.drop i)) (fun s => (l.length - (gt s.sl 8).num).toNat) ?_ ?_
  · exact ⟨0, by simp [vVars]⟩
  · rintro ⟨sl, hp, bs⟩ ⟨i, hi, h1, h0, h7, h8, rfl, he⟩
    by_cases hil : i < l.length
    · simp [slices_IndexFunc_Lapi_Var_api_Var.b0, h1, h0, h7, h8, vVars, Var.cells, hil, hok, hids]
      refine DP.mono (hg _ (List.getElem_mem hil)) fun r hr => ?_
      subst hr
      rw [firstAt_drop p hil] at he
      have hw : IntKind.i64.wrap ((i : Int) + 1) = ((i + 1 : Nat) : Int) := by rw [wrap64] <;> omega
      cases hp : p l[i]
      · simp [hw, he, hp]
        exact ⟨⟨i + 1, by omega, by omega, rfl⟩, by omega⟩
      · simp [he, hp]
    · obtain rfl : i = l.length := by omega
      simp [slices_IndexFunc_Lapi_Var_api_Var.b0, h1, h0, h7, h8, he, firstAt]

theorem contains_var_spec {f : FuncId} {cap : List V} {p : Var → Bool} {l : List (Var)} (hok : okFunc Tryz.prog f = true) (hids : V.idsL cap = []) (hg : ∀ t ∈ l, DP Tryz.prog f (.agg t.cells :: cap) fun r => r = .bool (p t)) (hl : l.length ≤ maxLen) :
    Pf Tryz.prog slices_ContainsFunc_Lapi_Var_api_Var.id [vVars l, .fn (.func f) [] cap] (.bool (l.any p)) := by
  refine DC.of slices_ContainsFunc_Lapi_Var_api_Var.ok (by simp) ?_
  simp [slices_ContainsFunc_Lapi_Var_api_Var.ir, slices_ContainsFunc_Lapi_Var_api_Var.rs, vVars, hids]
  refine (index_var_spec hok hids hg hl).use ?_
  simp [firstAt_any]

end Go.Abs.G



namespace Go.Abs.G
open Go.Proofs
attribute [local simp] I.vc sub merge place
set_option linter.unusedVariables false
theorem any_take_succ {α : Type} (p : α → Bool) {l : List α} {i : Nat} (h : i < l.length) : (l.take (i + 1)).any p = ((l.take i).any p || p l[i]) := by
  rw [List.take_succ_eq_append_getElem h, List.any_append]; simp

theorem terms_spec (l : List Term) (vars : Int) (hl : l.length ≤ maxLen) :
    Pf Tryz.prog model_terms.id [vTerms l, V.i vars] (.tup [.bool (badVarB vars l), .bool (badCoefB l)]) := by
  have hm : (maxLen : Int) ≤ 9223372036854775807 := by decide
  refine DC.of model_terms.ok (by simp) ?_
  simp [model_terms.ir, model_terms.rs, vTerms]
  refine WI.loop 0 (by simp) (fun s => ∃ i, i ≤ l.length ∧ gt s.sl 1 = V.i vars ∧ gt s.sl 4 = .bool (badVarB vars (l.take i)) ∧ gt s.sl 5 = .bool (badCoefB (l.take i)) ∧ gt s.sl 8 = vTerms l ∧ gt s.sl 9 = V.i l.length ∧ gt s.sl 10 = V.i i ∧ s.hp = []) (fun s => (l.length - (gt s.sl 10).num).toNat) ?_ ?_
  · exact ⟨0, by simp [vTerms, badVarB, badCoefB]⟩
  · rintro ⟨sl, hp, bs⟩ ⟨i, hi, h1, h4, h5, h8, h9, h10, rfl⟩
    by_cases hil : i < l.length
    · have e1 : badVarB vars (l.take (i + 1)) = (badVarB vars (l.take i) || (decide (l[i].x < 0) || decide (vars ≤ l[i].x))) := any_take_succ _ hil
      have e2 : badCoefB (l.take (i + 1)) = (badCoefB (l.take i) || (decide (l[i].c = 0) || !withinB l[i].c 1000000)) := any_take_succ _ hil
      have hw : IntKind.i64.wrap ((i : Int) + 1) = ((i + 1 : Nat) : Int) := by rw [wrap64] <;> omega
      have g10 := h10
      unfold model_terms.b0
      refine vc_cut (fun s => gt s.sl 1 = V.i vars ∧ gt s.sl 4 = .bool (badVarB vars (l.take i)) ∧ gt s.sl 5 = .bool (badCoefB (l.take i)) ∧ gt s.sl 8 = vTerms l ∧ gt s.sl 9 = V.i l.length ∧ gt s.sl 10 = V.i i ∧ gt s.sl 11 = V.bool true ∧ s.hp = []) (by simp [h1, h4, h5, h8, h9, h10, hil]) ?_
      rintro ⟨sl, hp, bs⟩ ⟨h1, h4, h5, h8, h9, h10, h11, rfl⟩
      refine vc_cut (fun s => gt s.sl 1 = V.i vars ∧ gt s.sl 4 = .bool (badVarB vars (l.take i)) ∧ gt s.sl 5 = .bool (badCoefB (l.take i)) ∧ gt s.sl 8 = vTerms l ∧ gt s.sl 9 = V.i l.length ∧ gt s.sl 10 = V.i i ∧ s.hp = []) (by simp [h1, h4, h5, h8, h9, h10, h11, hil]) ?_
      rintro ⟨sl, hp, bs⟩ ⟨h1, h4, h5, h8, h9, h10, rfl⟩
      refine vc_cut (fun s => gt s.sl 1 = V.i vars ∧ gt s.sl 4 = .bool (badVarB vars (l.take (i + 1))) ∧ gt s.sl 5 = .bool (badCoefB (l.take (i + 1))) ∧ gt s.sl 8 = vTerms l ∧ gt s.sl 9 = V.i l.length ∧ gt s.sl 10 = V.i i ∧ s.hp = [.mem false [] [l[i].cells]]) (vc_block_of ?_) ?_
      · refine vc_cut (fun s => gt s.sl 1 = V.i vars ∧ gt s.sl 4 = .bool (badVarB vars (l.take i)) ∧ gt s.sl 5 = .bool (badCoefB (l.take i)) ∧ gt s.sl 7 = .ptr 0 1 0 0 ∧ gt s.sl 8 = vTerms l ∧ gt s.sl 9 = V.i l.length ∧ gt s.sl 10 = V.i i ∧ s.hp = [.mem false [] [l[i].cells]]) (by simp [h1, h4, h5, h8, h9, h10, vTerms, Term.cells, hil]) ?_
        rintro ⟨sl, hp, bs⟩ ⟨h1, h4, h5, h7, h8, h9, h10, rfl⟩
        refine vc_cut (fun s => gt s.sl 1 = V.i vars ∧ gt s.sl 4 = .bool (badVarB vars (l.take (i + 1))) ∧ gt s.sl 5 = .bool (badCoefB (l.take i)) ∧ gt s.sl 7 = .ptr 0 1 0 0 ∧ gt s.sl 8 = vTerms l ∧ gt s.sl 9 = V.i l.length ∧ gt s.sl 10 = V.i i ∧ s.hp = [.mem false [] [l[i].cells]]) ?_ ?_
        · rw [e1]
          simp [h1, h4, h5, h7, h8, h9, h10, vTerms, Term.cells]
          cases badVarB vars (l.take i) <;> simp
          by_cases hx : l[i].x < 0 <;> simp [hx] <;> omega
        rintro ⟨sl, hp, bs⟩ ⟨h1, h4, h5, h7, h8, h9, h10, rfl⟩
        rw [e2]
        simp [h1, h4, h5, h7, h8, h9, h10, vTerms, Term.cells]
        cases badCoefB (l.take i) <;> simp
        by_cases hx : l[i].c = 0 <;> simp [hx]
        refine (within_spec l[i].c 1000000 (by decide) (by decide)).use ?_
        simp
      · rintro ⟨sl, hp, bs⟩ ⟨h1, h4, h5, h8, h9, h10, rfl⟩
        simp [h1, h4, h5, h8, h9, h10, hw, vTerms, g10]
        exact ⟨⟨i + 1, by omega, rfl, rfl, by omega⟩, by omega⟩
    · obtain rfl : i = l.length := by omega
      simp [model_terms.b0, h1, h4, h5, h8, h9, h10]

theorem wide1_spec (r : List Int) (c : Con) : Pf Tryz.prog model_wide_1.id [vInts r, .ref c.cells 0] (.bool (decide (r.length ≠ c.xs.length))) := by
  refine DC.of model_wide_1.ok (by simp) ?_
  simp [model_wide_1.ir, model_wide_1.rs, vInts, Con.cells, vTerms, vIntss]
  by_cases h : r.length = c.xs.length <;> simp [h]
  omega

theorem byteArray_ext {s t : ByteArray} (h : s.toList = t.toList) : s = t := by
  have hs : ∀ a : ByteArray, a.toList = a.data.toList := fun a => ByteArray.toList_eq a
  rw [hs, hs] at h
  exact ByteArray.ext (Array.ext' h)

theorem variable1_spec (w v : Var) : Pf Tryz.prog model_variable_1.id [.agg w.cells, .ref v.cells 0] (.bool (decide (w.name = v.name))) := by
  refine DC.of model_variable_1.ok (by simp) ?_
  simp [model_variable_1.ir, model_variable_1.rs, Var.cells]
  by_cases h : w.name = v.name <;> simp [h]
  exact fun h' => h (byteArray_ext h')

end Go.Abs.G



namespace Go.Abs.G
open Go.Proofs
attribute [local simp] I.vc sub merge place
set_option linter.unusedVariables false

theorem wide_spec (c : Con) (n : Needs) (f : FuncId) (hr : c.rows.length ≤ maxLen) : Pf Tryz.prog model_wide.id [.agg c.cells, .agg (n.cells f)] (.bool (wideB c n)) := by
  refine DC.of model_wide.ok (by simp) ?_
  simp [model_wide.ir, model_wide.rs, wideB, Con.cells, vTerms, vInts, vIntss, Needs.cells]
  by_cases hx : 8 < c.xs.length
  · have hx' : (8 : Int) < c.xs.length := by omega
    cases n.rows <;> simp [hx, hx', Int.not_le.2 hx']
  · have hx' : ¬ (8 : Int) < c.xs.length := by omega
    have hx2 : (c.xs.length : Int) ≤ 8 := by omega
    cases n.rows <;> simp [hx, hx', hx2]
    refine (counts_spec true c.rows.length).use ?_
    simp
    cases hb : countsB true c.rows.length <;> simp
    refine DP.mono (contains_ints_spec (p := fun r => decide (r.length ≠ c.xs.length)) (cap := [.ref c.cells 0]) (by simp) (by simp) (fun t _ => wide1_spec t c) hr) fun r hr => ?_
    subst hr
    simp

theorem fieldB_eq (c : Con) (n : Needs) : fieldB c n = (decide (¬ ((if n.op then 0 else c.op) = 0 ∧ (if n.k then 0 else c.k) = 0 ∧ (if n.v then 0 else c.v) = 0 ∧ (if n.x then 0 else c.x) = 0 ∧ (if n.y then 0 else c.y) = 0)) || (!n.terms && decide (0 < c.terms.length)) || (!n.xs && decide (0 < c.xs.length)) || (!n.table && decide (0 < c.table.length)) || (!n.rows && decide (0 < c.rows.length))) := by
  have key : ((!n.op && decide (c.op ≠ 0)) || (!n.k && decide (c.k ≠ 0)) || (!n.v && decide (c.v ≠ 0)) || (!n.x && decide (c.x ≠ 0)) || (!n.y && decide (c.y ≠ 0))) = decide (¬ ((if n.op then 0 else c.op) = 0 ∧ (if n.k then 0 else c.k) = 0 ∧ (if n.v then 0 else c.v) = 0 ∧ (if n.x then 0 else c.x) = 0 ∧ (if n.y then 0 else c.y) = 0)) := by
    cases n.op <;> cases n.k <;> cases n.v <;> cases n.x <;> cases n.y <;> rw [Bool.eq_iff_iff] <;> simp <;> omega
  unfold fieldB
  rw [key]

theorem field_spec (c : Con) (n : Needs) (f : FuncId) : Pf Tryz.prog model_field.id [.agg c.cells, .agg (n.cells f)] (.bool (fieldB c n)) := by
  refine DC.of model_field.ok (by simp) ?_
  unfold model_field.ir
  have hc : (V.agg c.cells).sized [] 10 := by simp [Con.cells, vTerms, vInts, vIntss]
  refine vc_cut (fun s => gt s.sl 2 = .ptr 0 1 0 0 ∧ gt s.sl 3 = .ptr 1 1 0 0 ∧ s.hp = [.mem false [] [c.cells], .mem false [] [n.cells f]]) (by simp [Con.cells, vTerms, vInts, vIntss, Needs.cells]) ?_
  rintro ⟨sl, hp, bs⟩ ⟨h2, h3, rfl⟩
  refine vc_cut (fun s => gt s.sl 2 = .ptr 0 1 0 0 ∧ gt s.sl 3 = .ptr 1 1 0 0 ∧ gt s.sl 5 = .ptr 2 1 0 0 ∧ s.hp = [.mem false [] [c.cells], .mem false [] [n.cells f], .mem false [] [[V.i c.op, V.i c.k, V.i c.v, V.i c.x, V.i c.y]]]) (by simp [h2, h3, Con.cells, vTerms, vInts, vIntss, Needs.cells]) ?_
  rintro ⟨sl, hp, bs⟩ ⟨h2, h3, h5, rfl⟩
  have key : ∀ (o k v x y : Int), o = (if n.op then 0 else c.op) → True := fun _ _ _ _ _ _ => trivial
  refine vc_cut (fun s => gt s.sl 2 = .ptr 0 1 0 0 ∧ gt s.sl 3 = .ptr 1 1 0 0 ∧ gt s.sl 5 = .ptr 2 1 0 0 ∧ s.hp = [.mem false [] [c.cells], .mem false [] [n.cells f], .mem false [] [[V.i (if n.op then 0 else c.op), V.i c.k, V.i c.v, V.i c.x, V.i c.y]]]) (by cases hb : n.op <;> simp [h2, h3, h5, Con.cells, vTerms, vInts, vIntss, Needs.cells, hb]) ?_
  rintro ⟨sl, hp, bs⟩ ⟨h2, h3, h5, rfl⟩
  refine vc_cut (fun s => gt s.sl 2 = .ptr 0 1 0 0 ∧ gt s.sl 3 = .ptr 1 1 0 0 ∧ gt s.sl 5 = .ptr 2 1 0 0 ∧ s.hp = [.mem false [] [c.cells], .mem false [] [n.cells f], .mem false [] [[V.i (if n.op then 0 else c.op), V.i c.k, V.i (if n.v then 0 else c.v), V.i c.x, V.i c.y]]]) (by cases hb : n.v <;> simp [h2, h3, h5, Con.cells, vTerms, vInts, vIntss, Needs.cells, hb]) ?_
  rintro ⟨sl, hp, bs⟩ ⟨h2, h3, h5, rfl⟩
  refine vc_cut (fun s => gt s.sl 2 = .ptr 0 1 0 0 ∧ gt s.sl 3 = .ptr 1 1 0 0 ∧ gt s.sl 5 = .ptr 2 1 0 0 ∧ s.hp = [.mem false [] [c.cells], .mem false [] [n.cells f], .mem false [] [[V.i (if n.op then 0 else c.op), V.i (if n.k then 0 else c.k), V.i (if n.v then 0 else c.v), V.i c.x, V.i c.y]]]) (by cases hb : n.k <;> simp [h2, h3, h5, Con.cells, vTerms, vInts, vIntss, Needs.cells, hb]) ?_
  rintro ⟨sl, hp, bs⟩ ⟨h2, h3, h5, rfl⟩
  refine vc_cut (fun s => gt s.sl 2 = .ptr 0 1 0 0 ∧ gt s.sl 3 = .ptr 1 1 0 0 ∧ gt s.sl 5 = .ptr 2 1 0 0 ∧ s.hp = [.mem false [] [c.cells], .mem false [] [n.cells f], .mem false [] [[V.i (if n.op then 0 else c.op), V.i (if n.k then 0 else c.k), V.i (if n.v then 0 else c.v), V.i (if n.x then 0 else c.x), V.i c.y]]]) (by cases hb : n.x <;> simp [h2, h3, h5, Con.cells, vTerms, vInts, vIntss, Needs.cells, hb]) ?_
  rintro ⟨sl, hp, bs⟩ ⟨h2, h3, h5, rfl⟩
  refine vc_cut (fun s => gt s.sl 2 = .ptr 0 1 0 0 ∧ gt s.sl 3 = .ptr 1 1 0 0 ∧ gt s.sl 5 = .ptr 2 1 0 0 ∧ s.hp = [.mem false [] [c.cells], .mem false [] [n.cells f], .mem false [] [[V.i (if n.op then 0 else c.op), V.i (if n.k then 0 else c.k), V.i (if n.v then 0 else c.v), V.i (if n.x then 0 else c.x), V.i (if n.y then 0 else c.y)]]]) (by cases hb : n.y <;> simp [h2, h3, h5, Con.cells, vTerms, vInts, vIntss, Needs.cells, hb]) ?_
  rintro ⟨sl, hp, bs⟩ ⟨h2, h3, h5, rfl⟩
  have hf := fieldB_eq c n
  rw [hf]
  generalize (if n.op then 0 else c.op) = o
  generalize (if n.k then 0 else c.k) = k
  generalize (if n.v then 0 else c.v) = v
  generalize (if n.x then 0 else c.x) = x
  generalize (if n.y then 0 else c.y) = y
  generalize hb0 : decide (¬ (o = 0 ∧ k = 0 ∧ v = 0 ∧ x = 0 ∧ y = 0)) = b0
  refine vc_cut (fun s => gt s.sl 4 = .bool (b0 || (!n.terms && decide (0 < c.terms.length)) || (!n.xs && decide (0 < c.xs.length)) || (!n.table && decide (0 < c.table.length)) || (!n.rows && decide (0 < c.rows.length)))) (vc_reg_of ?_) ?_
  · have e : ∀ b0 b : Bool, (b0 || b) = if b0 then true else b := fun b0 b => by cases b0 <;> rfl
    refine vcIts_cut 4 (fun s => gt s.sl 2 = .ptr 0 1 0 0 ∧ gt s.sl 3 = .ptr 1 1 0 0 ∧ gt s.sl 35 = .bool b0 ∧ s.hp = [.mem false [] [c.cells], .mem false [] [n.cells f], .mem false [] [[V.i o, V.i k, V.i v, V.i x, V.i y]]]) ?_ ?_
    · simp [h2, h3, h5, ← hb0]
      rfl
    rintro ⟨sl, hp, bs⟩ ⟨h2, h3, h4, rfl⟩
    refine vcIts_cut 11 (fun s => gt s.sl 2 = .ptr 0 1 0 0 ∧ gt s.sl 3 = .ptr 1 1 0 0 ∧ gt s.sl 46 = .bool (b0 || (!n.terms && decide (0 < c.terms.length))) ∧ s.hp = [.mem false [] [c.cells], .mem false [] [n.cells f], .mem false [] [[V.i o, V.i k, V.i v, V.i x, V.i y]]]) ?_ ?_
    · cases b0 <;> cases hn : n.terms <;> simp [h2, h3, h4, hn, Con.cells, vTerms, vInts, vIntss, Needs.cells]
    generalize (b0 || (!n.terms && decide (0 < c.terms.length))) = b1
    rintro ⟨sl, hp, bs⟩ ⟨h2, h3, h4, rfl⟩
    refine vcIts_cut 11 (fun s => gt s.sl 2 = .ptr 0 1 0 0 ∧ gt s.sl 3 = .ptr 1 1 0 0 ∧ gt s.sl 57 = .bool (b1 || (!n.xs && decide (0 < c.xs.length))) ∧ s.hp = [.mem false [] [c.cells], .mem false [] [n.cells f], .mem false [] [[V.i o, V.i k, V.i v, V.i x, V.i y]]]) ?_ ?_
    · cases b1 <;> cases hn : n.xs <;> simp [h2, h3, h4, hn, Con.cells, vTerms, vInts, vIntss, Needs.cells]
    generalize (b1 || (!n.xs && decide (0 < c.xs.length))) = b2
    rintro ⟨sl, hp, bs⟩ ⟨h2, h3, h4, rfl⟩
    refine vcIts_cut 11 (fun s => gt s.sl 2 = .ptr 0 1 0 0 ∧ gt s.sl 3 = .ptr 1 1 0 0 ∧ gt s.sl 68 = .bool (b2 || (!n.table && decide (0 < c.table.length))) ∧ s.hp = [.mem false [] [c.cells], .mem false [] [n.cells f], .mem false [] [[V.i o, V.i k, V.i v, V.i x, V.i y]]]) ?_ ?_
    · cases b2 <;> cases hn : n.table <;> simp [h2, h3, h4, hn, Con.cells, vTerms, vInts, vIntss, Needs.cells]
    generalize (b2 || (!n.table && decide (0 < c.table.length))) = b3
    rintro ⟨sl, hp, bs⟩ ⟨h2, h3, h4, rfl⟩
    cases b3 <;> cases hn : n.rows <;> simp [h2, h3, h4, hn, Con.cells, vTerms, vInts, vIntss, Needs.cells]
  · rintro ⟨sl, hp, bs⟩ h4
    simp [h4, model_field.rs]
end Go.Abs.G



namespace Go.Abs.G
open Go.Proofs
attribute [local simp] I.vc sub merge place
set_option linter.unusedVariables false

def kindTab : List (Int × Needs × FuncId) := [
  (1, ⟨true, false, false, false, false, false, true, true, false⟩, model_lin.id),
  (2, ⟨false, false, false, false, true, true, true, false, false⟩, model_kinds_1.id),
  (3, ⟨false, true, false, false, false, false, false, false, false⟩, model_allDiff.id),
  (4, ⟨false, false, true, false, true, true, false, false, false⟩, model_element.id),
  (5, ⟨false, true, false, false, false, true, false, false, false⟩, model_kinds_2.id),
  (6, ⟨false, true, false, false, false, true, false, false, false⟩, model_kinds_3.id),
  (7, ⟨true, false, false, false, true, false, true, false, false⟩, model_reif.id),
  (8, ⟨false, true, false, true, false, false, false, false, false⟩, model_table.id),
  (9, ⟨false, true, false, false, false, false, true, true, true⟩, model_count.id)]
def kindEnts : List (V × V) := kindTab.map fun e => (V.i e.1, .agg (e.2.1.cells e.2.2))
def kindsV : V := .mview kindEnts

theorem kindEnts_key : ∀ e ∈ kindEnts, e.1.isKey .i64 = true := by
  intro e he
  obtain ⟨t, _, rfl⟩ := List.mem_map.1 he
  rfl

theorem kindEnts_get (k : Int) : (needs k = none ∧ getE kindEnts k = none) ∨ ∃ n f, needs k = some n ∧ (k, n, f) ∈ kindTab ∧ getE kindEnts k = some (.agg (n.cells f)) := by
  by_cases h1 : k = 1
  · subst h1; exact .inr ⟨_, _, rfl, by simp [kindTab], rfl⟩
  by_cases h2 : k = 2
  · subst h2; exact .inr ⟨_, _, rfl, by simp [kindTab], rfl⟩
  by_cases h3 : k = 3
  · subst h3; exact .inr ⟨_, _, rfl, by simp [kindTab], rfl⟩
  by_cases h4 : k = 4
  · subst h4; exact .inr ⟨_, _, rfl, by simp [kindTab], rfl⟩
  by_cases h5 : k = 5
  · subst h5; exact .inr ⟨_, _, rfl, by simp [kindTab], rfl⟩
  by_cases h6 : k = 6
  · subst h6; exact .inr ⟨_, _, rfl, by simp [kindTab], rfl⟩
  by_cases h7 : k = 7
  · subst h7; exact .inr ⟨_, _, rfl, by simp [kindTab], rfl⟩
  by_cases h8 : k = 8
  · subst h8; exact .inr ⟨_, _, rfl, by simp [kindTab], rfl⟩
  by_cases h9 : k = 9
  · subst h9; exact .inr ⟨_, _, rfl, by simp [kindTab], rfl⟩
  · refine .inl ⟨by simp [needs, *], ?_⟩
    simp [kindEnts, kindTab, getE]
    omega

theorem kinds_spec : Pf Tryz.prog model_kinds.id [] kindsV := by
  refine DC.of model_kinds.ok (by simp) ?_
  simp [model_kinds.ir, model_kinds.rs, kindsV, kindEnts, kindTab, Needs.cells, V.isKey]

theorem con1_spec (x vars : Int) : Pf Tryz.prog model_con_1.id [V.i x, .ref [V.i vars] 0] (.bool (noB vars x)) := by
  refine DC.of model_con_1.ok (by simp) ?_
  by_cases h : x < 0 <;> simp [model_con_1.ir, model_con_1.rs, noB, h]

def zeroNeeds : List V := [.bool false, .bool false, .bool false, .bool false, .bool false, .bool false, .bool false, .bool false, .bool false, .a .nilFunc]

theorem con_look (c : Con) (vars : Int) : vc Tryz.prog (.reg 1 [.o 1 (.lt (some 12) (.fad (.tmp 2) 0)),
    .o 2 (.lt (some 13) (.ld false 1 (.tmp 12))),
    .o 0 (.call (some 11) model_kinds.id []),
    .o 3 (.lt (some 14) (.lkp true .i64 (.agg [.a (.bool false), .a (.bool false), .a (.bool false), .a (.bool false), .a (.bool false), .a (.bool false), .a (.bool false), .a (.bool false), .a (.bool false), .a (.nilFunc)]) (.tmp 11) (.tmp 13))),
    .o 4 (.lt (some 10) (.mov (.tmp 14))),
    .o 5 (.lt (some 15) (.ext (.tmp 10) 0)),
    .o 6 (.lt (some 16) (.ext (.tmp 10) 1)),
    .o 7 (.alloc (some 5) 0 10 [.a (.bool false), .a (.bool false), .a (.bool false), .a (.bool false), .a (.bool false), .a (.bool false), .a (.bool false), .a (.bool false), .a (.bool false), .a (.nilFunc)]),
    .o 8 (.store [] 10 (.tmp 5) (.tmp 15)),
    .o 9 (.lt (some 6) (.mov (.tmp 16))),
    .g (.keep [2, 3, 5, 6])]) (fun e s => match e with
      | .norm => gt s.sl 2 = .ptr 0 1 0 0 ∧ gt s.sl 3 = .ptr 1 1 0 0 ∧ gt s.sl 5 = .ptr 2 1 0 0 ∧ ((needs c.kind = none ∧ gt s.sl 6 = .bool false ∧ s.hp = [.mem false [] [c.cells], .mem false [] [[V.i vars]], .mem false [] [zeroNeeds]]) ∨
          ∃ n f, needs c.kind = some n ∧ gt s.sl 6 = .bool true ∧ s.hp = [.mem false [] [c.cells], .mem false [] [[V.i vars]], .mem false [] [n.cells f]])
      | _ => False) ⟨up (up e0 3 (.ptr 1 1 0 0)) 2 (.ptr 0 1 0 0), [.mem false [] [c.cells], .mem false [] [[V.i vars]]], 0⟩ := by
  simp [Con.cells, vTerms, vInts, vIntss]
  refine kinds_spec.use ?_
  have hk := kindEnts_key
  rcases kindEnts_get c.kind with ⟨h1, h2⟩ | ⟨n, f, h1, h2, h3⟩
  · simp [kindsV, h1, h2, zeroNeeds]
    exact ⟨fun a b h => hk _ h, rfl⟩
  · simp [kindsV, h1, h3, Needs.cells]
    exact ⟨fun a b h => hk _ h, rfl⟩

def conSt (c : Con) (vars : Int) (n : Needs) (f : FuncId) (s : St) : Prop :=
  gt s.sl 2 = .ptr 0 1 0 0 ∧ gt s.sl 3 = .ptr 1 1 0 0 ∧ gt s.sl 5 = .ptr 2 1 0 0 ∧ s.hp = [.mem false [] [c.cells], .mem false [] [[V.i vars]], .mem false [] [n.cells f]]

def conSt2 (c : Con) (vars : Int) (n : Needs) (f : FuncId) (s : St) : Prop :=
  gt s.sl 2 = .ptr 0 1 0 0 ∧ gt s.sl 5 = .ptr 2 1 0 0 ∧ gt s.sl 7 = .bool (badVarB vars c.terms) ∧ gt s.sl 8 = .bool (badCoefB c.terms) ∧ gt s.sl 9 = .fn (.func model_con_1.id) [] [.ptr 1 1 0 0] ∧
    s.hp = [.mem false [] [c.cells], .mem false [] [[V.i vars]], .mem false [] [n.cells f]]

theorem con_spec (c : Con) (vars : Int) (hc : okCon c) : Pf Tryz.prog model_con.id [.agg c.cells, V.i vars] (V.i (conB c vars)) := by
  have hm : (maxLen : Int) ≤ 9223372036854775807 := by decide
  obtain ⟨_, _, ⟨k3, _⟩, _, _, _, _, ⟨k8, k8'⟩, ⟨k9, k9'⟩, k10, k11⟩ := hc
  refine DC.of model_con.ok (by simp) ?_
  unfold model_con.ir
  refine vc_cut (fun s => s = ⟨up (up e0 3 (.ptr 1 1 0 0)) 2 (.ptr 0 1 0 0), [.mem false [] [c.cells], .mem false [] [[V.i vars]]], 0⟩) (by simp [Con.cells, vTerms, vInts, vIntss]) ?_
  rintro _ rfl
  refine vc_cut _ (vc_mono (fun e s hs => by cases e <;> first | exact hs | exact hs.elim) (con_look c vars)) ?_
  rintro ⟨sl, hp, bs⟩ ⟨h2, h3, h5, ⟨hn, h6, rfl⟩ | ⟨n, f, hn, h6, rfl⟩⟩
  · simp [h2, h3, h5, h6, hn, conB, model_con.rs]
  have hcB : conB c vars = conN c vars n := by simp [conB, hn]
  rw [hcB]
  -- the operator
  refine vc_cut (fun s => conSt c vars n f s ∧ (n.op && (decide (c.op < 1) || decide (3 < c.op))) = false) ?_ ?_
  · cases ho : n.op
    · simp [h2, h3, h5, h6, conSt, Needs.cells, ho, Con.cells, vTerms, vInts, vIntss]
    · by_cases h1 : c.op < 1
      · simp [h2, h3, h5, h6, conSt, Needs.cells, ho, Con.cells, vTerms, vInts, vIntss, h1, conN, model_con.rs]
      · by_cases h1' : 3 < c.op <;> simp [h2, h3, h5, h6, conSt, Needs.cells, ho, Con.cells, vTerms, vInts, vIntss, h1, h1', conN, model_con.rs] <;> omega
  rintro ⟨sl, hp, bs⟩ ⟨⟨h2, h3, h5, rfl⟩, b1⟩
  refine vc_cut (fun s => conSt c vars n f s ∧ gt s.sl 7 = .bool (badVarB vars c.terms) ∧ gt s.sl 8 = .bool (badCoefB c.terms)) ?_ ?_
  · simp [h2, h3, h5, Con.cells, vTerms, vInts, vIntss]
    refine (terms_spec c.terms vars k3).use ?_
    simp [conSt, Con.cells, vTerms, vInts, vIntss]
  rintro ⟨sl, hp, bs⟩ ⟨⟨h2, h3, h5, rfl⟩, h7, h8⟩
  refine vc_cut (fun s => conSt2 c vars n f s) ?_ ?_
  · simp [h2, h3, h5, h7, h8, conSt2]
  rintro ⟨sl, hp, bs⟩ ⟨h2, h5, h7, h8, h9, rfl⟩
  refine vc_cut (fun s => conN c vars n = 0) (vc_block_of ?_) ?_
  · refine vc_cut (fun s => conSt2 c vars n f s ∧ gt s.sl 41 = .bool (fieldB c n)) ?_ ?_
    · simp [h2, h5, Needs.cells, Con.cells, vTerms, vInts, vIntss]
      refine (field_spec c n f).use ?_
      simp [h2, h5, h7, h8, h9, conSt2, Needs.cells, Con.cells, vTerms, vInts, vIntss]
    rintro ⟨sl, hp, bs⟩ ⟨⟨h2, h5, h7, h8, h9, rfl⟩, h41⟩
    cases b2 : fieldB c n
    case true => simp [h41, b2, model_con.rs, conN, b1]
    rw [b2] at h41
    rw [vc_cond_false (show St.ev _ (.tmp 41) = _ from h41)]
    refine vc_cut (fun s => conSt2 c vars n f s ∧ gt s.sl 45 = .bool (!countsB n.terms c.terms.length || !countsB n.xs c.xs.length || !countsB n.table c.table.length || wideB c n)) ?_ ?_
    · simp [h2, h5, h7, h8, h9, Needs.cells, Con.cells, vTerms, vInts, vIntss]
      refine (counts_spec n.terms c.terms.length).use ?_
      cases countsB n.terms c.terms.length
      · simp [conSt2, h2, h5, h7, h8, h9, Needs.cells, Con.cells, vTerms, vInts, vIntss]
      simp [h2, h5, h7, h8, h9, Needs.cells, Con.cells, vTerms, vInts, vIntss]
      refine (counts_spec n.xs c.xs.length).use ?_
      cases countsB n.xs c.xs.length
      · simp [conSt2, h2, h5, h7, h8, h9, Needs.cells, Con.cells, vTerms, vInts, vIntss]
      simp [h2, h5, h7, h8, h9, Needs.cells, Con.cells, vTerms, vInts, vIntss]
      refine (counts_spec n.table c.table.length).use ?_
      cases countsB n.table c.table.length
      · simp [conSt2, h2, h5, h7, h8, h9, Needs.cells, Con.cells, vTerms, vInts, vIntss]
      simp [h2, h5, h7, h8, h9, Needs.cells, Con.cells, vTerms, vInts, vIntss]
      refine (wide_spec c n f k10).use ?_
      simp [conSt2, h2, h5, h7, h8, h9, Needs.cells, Con.cells, vTerms, vInts, vIntss]
    rintro ⟨sl, hp, bs⟩ ⟨⟨h2, h5, h7, h8, h9, rfl⟩, h45⟩
    cases b3 : (!countsB n.terms c.terms.length || !countsB n.xs c.xs.length || !countsB n.table c.table.length || wideB c n)
    case true => rw [b3] at h45; simp [h45, model_con.rs, conN, b1, b2, b3]
    rw [b3] at h45
    rw [vc_cond_false (show St.ev _ (.tmp 45) = _ from h45)]
    refine vc_cut (fun s => gt s.sl 2 = .ptr 0 1 0 0 ∧ gt s.sl 8 = .bool (badCoefB c.terms) ∧ s.hp = [.mem false [] [c.cells], .mem false [] [[V.i vars]], .mem false [] [n.cells f]] ∧
      gt s.sl 70 = .bool (badVarB vars c.terms || (n.x && noB vars c.x) || (n.y && noB vars c.y) || c.xs.any (noB vars))) ?_ ?_
    · cases b0 : badVarB vars c.terms
      case true => rw [b0] at h7; simp [h2, h5, h7, h8, h9, Needs.cells, Con.cells, vTerms, vInts, vIntss]
      rw [b0] at h7
      have last : DP Tryz.prog slices_ContainsFunc_Lint_int.id [vInts c.xs, .fn (.func model_con_1.id) [] [.ref [V.i vars] 0]] fun r => r = .bool (c.xs.any (noB vars)) :=
        contains_int_spec (p := noB vars) (cap := [.ref [V.i vars] 0]) (by simp) (by simp) (fun t _ => con1_spec t vars) k8
      have last' : ∀ Q : V → Prop, Q (.bool (c.xs.any (noB vars))) → DP Tryz.prog slices_ContainsFunc_Lint_int.id [.view 1 (List.map (fun n => [V.i n]) c.xs), .fn (.func model_con_1.id) [] [.ref [V.i vars] 0]] Q := fun Q hq => DP.mono last fun r hr => by rw [hr]; exact hq
      have mid : ∀ b : Bool, (n.y && noB vars c.y) = b → True := fun _ _ => trivial
      cases hx : n.x <;> cases hy : n.y <;> simp [h2, h5, h7, h8, h9, Needs.cells, Con.cells, vTerms, vInts, vIntss, hx, hy]
      · exact last' _ (by simp)
      · refine (con1_spec c.y vars).use ?_
        cases noB vars c.y <;> simp
        exact last' _ (by simp)
      · refine (con1_spec c.x vars).use ?_
        cases noB vars c.x <;> simp
        exact last' _ (by simp)
      · refine (con1_spec c.x vars).use ?_
        cases noB vars c.x <;> simp
        refine (con1_spec c.y vars).use ?_
        cases noB vars c.y <;> simp
        exact last' _ (by simp)
    rintro ⟨sl, hp, bs⟩ ⟨h2, h8, rfl, h70⟩
    cases b4 : (badVarB vars c.terms || (n.x && noB vars c.x) || (n.y && noB vars c.y) || c.xs.any (noB vars))
    case true => rw [b4] at h70; simp [h70, model_con.rs, conN, b1, b2, b3, b4]
    rw [b4] at h70
    rw [vc_cond_false (show St.ev _ (.tmp 70) = _ from h70)]
    refine vc_cut (fun s => gt s.sl 2 = .ptr 0 1 0 0 ∧ gt s.sl 92 = .bool (badCoefB c.terms) ∧ s.hp = [.mem false [] [c.cells], .mem false [] [[V.i vars]], .mem false [] [n.cells f]]) (by simp [h2, h8]) ?_
    rintro ⟨sl, hp, bs⟩ ⟨h2, h92, rfl⟩
    cases b5 : badCoefB c.terms
    case true => simp [h92, model_con.rs, conN, b1, b2, b3, b4, b5]
    rw [b5] at h92
    rw [vc_cond_false (show St.ev _ (.tmp 92) = _ from h92)]
    refine vc_cut (fun s => gt s.sl 94 = .bool (!withinB c.k 1000000000 || !withinB c.v 1000000000 || greatB c.table || c.rows.any greatB)) ?_ ?_
    · simp [h2, Needs.cells, Con.cells, vTerms, vInts, vIntss]
      refine (within_spec c.k 1000000000 (by decide) (by decide)).use ?_
      cases withinB c.k 1000000000
      · simp
      simp [h2, Needs.cells, Con.cells, vTerms, vInts, vIntss]
      refine (within_spec c.v 1000000000 (by decide) (by decide)).use ?_
      cases withinB c.v 1000000000
      · simp
      simp [h2, Needs.cells, Con.cells, vTerms, vInts, vIntss]
      refine (great_spec c.table k9).use ?_
      cases greatB c.table
      case true => simp
      simp [h2, Needs.cells, Con.cells, vTerms, vInts, vIntss]
      refine (contains_ints_spec (by simp) (by simp) (fun t ht => great_spec t (k11 t ht).1) k10).use ?_
      simp
    rintro ⟨sl, hp, bs⟩ h94
    cases b6 : (!withinB c.k 1000000000 || !withinB c.v 1000000000 || greatB c.table || c.rows.any greatB)
    case true => rw [b6] at h94; simp [h94, model_con.rs, conN, b1, b2, b3, b4, b5, b6]
    rw [b6] at h94
    simp [h94, conN, b1, b2, b3, b4, b5, b6]
  · rintro ⟨sl, hp, bs⟩ h0
    simp [h0, model_con.rs]
end Go.Abs.G



namespace Go.Abs.G
open Go.Proofs
attribute [local simp] I.vc sub merge place
set_option linter.unusedVariables false

theorem width_pos (s : ByteArray) (pos : Nat) : 1 ≤ (Utf8.decode s pos).2 := by
  unfold Utf8.decode
  simp only
  repeat' split
  all_goals simp

theorem nameFrom_step (s : ByteArray) (f pos : Nat) (h : pos < s.size) : nameFrom s (f + 1) pos = if !letterB (Utf8.decode s pos).1 && (decide (pos = 0) || decide ((Utf8.decode s pos).1 < 48) || decide (57 < (Utf8.decode s pos).1)) then false else nameFrom s f (pos + (Utf8.decode s pos).2) := by
  rw [nameFrom, if_pos h]

theorem nameFrom_end (s : ByteArray) (f pos : Nat) (h : ¬ pos < s.size) : nameFrom s f pos = true := by
  cases f with
  | zero => rfl
  | succ f => rw [nameFrom, if_neg h]

def sitLeft : Heap → Nat
  | [.sit s pos] => s.size - pos
  | _ => 0
attribute [simp] sitLeft

theorem name_spec (s : ByteArray) (hs : s.size ≤ maxLen) : Pf Tryz.prog model_isName.id [.str s] (.bool (nameB s)) := by
  have hm : (maxLen : Int) ≤ 9223372036854775807 := by decide
  refine DC.of model_isName.ok (by simp) ?_
  simp [model_isName.ir, model_isName.rs]
  refine WI.mono (Q := fun e st => (e = .exit 0 ∧ gt st.sl 0 = .str s ∧ nameFrom s (s.size + 1) 0 = true) ∨ (e = .ret ∧ gt st.sl 2 = .bool false ∧ nameFrom s (s.size + 1) 0 = false)) (WI.loop 1 (by simp) (fun st => ∃ pos f, gt st.sl 0 = .str s ∧ gt st.sl 7 = .ptr 0 0 0 0 ∧ st.hp = [.sit s pos] ∧ s.size < f + pos ∧ nameFrom s (s.size + 1) 0 = nameFrom s f pos) (fun st => sitLeft st.hp) ?_ ?_) ?_
  · exact ⟨0, s.size + 1, by simp⟩
  · rintro ⟨sl, hp, bs⟩ ⟨pos, f, h0, h7, rfl, hf, he⟩
    by_cases hp : pos < s.size
    · obtain ⟨f, rfl⟩ : ∃ g, f = g + 1 := ⟨f - 1, by omega⟩
      have hw := width_pos s pos
      rw [nameFrom_step s f pos hp] at he
      have hnm : pos = 0 ∨ 0 < pos := by omega
      generalize hd : Utf8.decode s pos = d at he hw
      obtain ⟨r, wd⟩ := d
      simp only at he hw
      unfold model_isName.b0
      refine vc_cut (fun st => gt st.sl 0 = .str s ∧ gt st.sl 7 = .ptr 0 0 0 0 ∧ gt st.sl 8 = .tup [.bool true, V.i pos, .int .i32 r] ∧ gt st.sl 9 = .bool true ∧ st.hp = [.sit s (pos + wd)]) (by simp [h0, h7, hp, hd]) ?_
      rintro ⟨sl, _, bs⟩ ⟨h0, h7, h8, h9, rfl⟩
      refine vc_cut (fun st => gt st.sl 0 = .str s ∧ gt st.sl 7 = .ptr 0 0 0 0 ∧ gt st.sl 8 = .tup [.bool true, V.i pos, .int .i32 r] ∧ st.hp = [.sit s (pos + wd)]) (by simp [h0, h7, h8, h9]) ?_
      rintro ⟨sl, _, bs⟩ ⟨h0, h7, h8, rfl⟩
      refine vc_block_of (vc_cut (fun st => gt st.sl 0 = .str s ∧ gt st.sl 7 = .ptr 0 0 0 0 ∧ gt st.sl 3 = V.i pos ∧ gt st.sl 4 = .int .i32 r ∧ st.hp = [.sit s (pos + wd)]) (by simp [h0, h7, h8]) ?_)
      rintro ⟨sl, _, bs⟩ ⟨h0, h7, h3, h4, rfl⟩
      refine vc_cut (fun st => gt st.sl 0 = .str s ∧ gt st.sl 7 = .ptr 0 0 0 0 ∧ gt st.sl 3 = V.i pos ∧ gt st.sl 4 = .int .i32 r ∧ gt st.sl 5 = .bool (letterB r) ∧ st.hp = [.sit s (pos + wd)]) ?_ ?_
      · unfold letterB
        have i1 : ((97 : Int) ≤ (r : Int)) = (97 ≤ r) := by apply propext; omega
        have i2 : ((r : Int) ≤ 122) = (r ≤ 122) := by apply propext; omega
        have i3 : ((65 : Int) ≤ (r : Int)) = (65 ≤ r) := by apply propext; omega
        have i4 : ((r : Int) ≤ 90) = (r ≤ 90) := by apply propext; omega
        have i5 : ((r : Int) == 95) = decide (r = 95) := by rw [Bool.eq_iff_iff]; simp; omega
        by_cases a1 : 97 ≤ r <;> by_cases a2 : r ≤ 122 <;> by_cases a3 : 65 ≤ r <;> by_cases a4 : r ≤ 90 <;> first | (exfalso; omega) | simp [h0, h7, h3, h4, i1, i2, i3, i4, i5, a1, a2, a3, a4]
      rintro ⟨sl, _, bs⟩ ⟨h0, h7, h3, h4, h5, rfl⟩
      refine vc_cut (fun st => gt st.sl 0 = .str s ∧ gt st.sl 7 = .ptr 0 0 0 0 ∧ gt st.sl 43 = .bool (!letterB r && (decide (pos = 0) || decide (r < 48) || decide (57 < r))) ∧ st.hp = [.sit s (pos + wd)]) ?_ ?_
      · have i1 : ((r : Int) < 48) = (r < 48) := by apply propext; omega
        have i2 : ((57 : Int) < (r : Int)) = (57 < r) := by apply propext; omega
        have i3 : ((pos : Int) = 0) = (pos = 0) := by apply propext; omega
        cases hl : letterB r <;> rw [hl] at h5 <;> by_cases a1 : pos = 0 <;> by_cases a2 : r < 48 <;> simp [h0, h7, h3, h4, h5, i1, i2, i3, a1, a2]
      rintro ⟨sl, _, bs⟩ ⟨h0, h7, h43, rfl⟩
      cases hb : (!letterB r && (decide (pos = 0) || decide (r < 48) || decide (57 < r)))
      · rw [hb] at h43 he
        simp [h0, h7, h43]
        exact ⟨⟨f, by omega, by simpa using he⟩, by omega⟩
      · rw [hb] at h43 he
        simp [h0, h7, h43]
        simpa using he
    · rw [nameFrom_end s f pos hp] at he
      simp [model_isName.b0, h0, h7, hp, he]
  · rintro e ⟨sl, hp, bs⟩ (⟨rfl, h0, he⟩ | ⟨rfl, h2, he⟩)
    · by_cases h1 : 1 ≤ s.size
      · have h1' : (1 : Int) ≤ s.size := by omega
        simp [h0, nameB, he, h1, h1']
        omega
      · have h1' : ¬ (1 : Int) ≤ s.size := by omega
        simp [h0, nameB, he, h1, h1']
    · simp [h2, nameB, he]

theorem goal_spec (m : Model) (hl : m.goal.length ≤ maxLen) : Pf Tryz.prog model_goal.id [.agg m.cells] (V.i (goalB m)) := by
  refine DC.of model_goal.ok (by simp) ?_
  simp [model_goal.ir, model_goal.rs, Model.cells, vVars, vCons, vTerms]
  refine (terms_spec m.goal m.vars.length hl).use ?_
  simp
  by_cases h0 : m.goal = []
  · cases hg : m.hasGoal
    · simp [h0, goalB, hg]
      refine (counts_spec false 0).use ?_
      cases countsB false 0 <;> simp
      simp [badVarB, badCoefB]
    · simp [h0, goalB, hg]
      refine (counts_spec true 0).use ?_
      cases hc : countsB true 0 <;> simp
      all_goals (simp [countsB] at hc)
  · have h1 : 0 < m.goal.length := List.length_pos_iff.2 h0
    have h0' : (0 : Int) < m.goal.length := by omega
    cases hg : m.hasGoal
    · simp [h0, goalB, hg]
    · simp [h0, goalB, hg]
      refine (counts_spec true m.goal.length).use ?_
      cases countsB true m.goal.length <;> simp
      cases badVarB m.vars.length m.goal <;> simp

theorem variable_spec (l : List Var) (i : Nat) (h : i < l.length) (hl : l.length ≤ maxLen) (hv : okVar l[i]) : Pf Tryz.prog model_variable.id [vVars l, V.i i] (V.i (varB l i l[i])) := by
  have hm : (maxLen : Int) ≤ 9223372036854775807 := by decide
  refine DC.of model_variable.ok (by simp) ?_
  unfold model_variable.ir
  refine vc_cut (fun s => gt s.sl 0 = vVars l ∧ gt s.sl 1 = V.i i ∧ s.hp = []) (by simp) ?_
  rintro ⟨sl, hp, bs⟩ ⟨h0, h1, rfl⟩
  refine vc_cut (fun s => gt s.sl 0 = vVars l ∧ gt s.sl 1 = V.i i ∧ gt s.sl 5 = .ptr 0 1 0 0 ∧ s.hp = [.mem false [] [l[i].cells]]) (by simp [h0, h1, vVars, h, Var.cells]) ?_
  rintro ⟨sl, hp, bs⟩ ⟨h0, h1, h5, rfl⟩
  generalize hv' : l[i] = v at *
  obtain ⟨hv1, _, _⟩ := hv
  have hi : (i : Int) ≤ l.length := by omega
  have htk : List.take i (List.map Var.cells l) = List.map Var.cells (l.take i) := List.map_take.symm
  refine vc_cut (fun s => gt s.sl 5 = .ptr 0 1 0 0 ∧ s.hp = [.mem false [] [v.cells]] ∧ nameB v.name = true ∧ ((l.take i).any fun w => decide (w.name = v.name)) = false) ?_ ?_
  · simp [h0, h1, h5, Var.cells]
    refine (name_spec v.name hv1).use ?_
    cases hn : nameB v.name
    · simp [varB, hn, model_variable.rs]
    simp [h0, h1, h5, Var.cells, vVars, hi]
    rw [htk]
    refine DP.mono (contains_var_spec (p := fun w => decide (w.name = v.name)) (cap := [.ref v.cells 0]) (l := l.take i) (by simp) (by simp) (fun t _ => variable1_spec t v) (by simp; omega)) fun r hr => ?_
    subst hr
    cases ha : ((l.take i).any fun w => decide (w.name = v.name))
    · simp [ha, Var.cells]
      simpa using ha
    · simp [varB, hn, ha, model_variable.rs]
  rintro ⟨sl, hp, bs⟩ ⟨h5, rfl, b1, b2⟩
  have hb : varB l i v = if !withinB v.lo 1000000000 || !withinB v.hi 1000000000 || decide (v.hi < v.lo) || decide (64 ≤ v.hi - v.lo) then 42 else 0 := by
    unfold varB; rw [b1, b2]; rfl
  rw [hb]
  refine vc_cut (fun s => (!withinB v.lo 1000000000 || !withinB v.hi 1000000000 || decide (v.hi < v.lo) || decide (64 ≤ v.hi - v.lo)) = false) ?_ ?_
  · simp [h5, Var.cells]
    refine (within_spec v.lo 1000000000 (by decide) (by decide)).use ?_
    cases w1 : withinB v.lo 1000000000
    · simp [model_variable.rs]
    simp [h5, Var.cells]
    refine (within_spec v.hi 1000000000 (by decide) (by decide)).use ?_
    cases w2 : withinB v.hi 1000000000
    · simp [model_variable.rs]
    unfold withinB at w1 w2
    simp at w1 w2
    have hw : IntKind.i64.wrap (v.hi - v.lo) = v.hi - v.lo := by rw [wrap64] <;> omega
    by_cases hlt : v.hi < v.lo
    · simp [hlt, Int.not_le.2 hlt, model_variable.rs, Var.cells]
    · by_cases hge : 64 ≤ v.hi - v.lo <;> simp [hlt, hw, hge, model_variable.rs, Var.cells] <;> omega
  · rintro ⟨sl, hp, bs⟩ hb
    rw [hb]
    simp [model_variable.rs]
end Go.Abs.G



namespace Go.Abs.G
open Go.Proofs
attribute [local simp] I.vc sub merge place
set_option linter.unusedVariables false
set_option linter.unusedSimpArgs false

theorem firstBad_drop {α : Type} (f : Nat → α → Int) {l : List α} {i : Nat} (h : i < l.length) : firstBad f i (l.drop i) = if f i l[i] = 0 then firstBad f (i + 1) (l.drop (i + 1)) else some (i, f i l[i]) := by
  rw [List.drop_eq_getElem_cons h]; rfl

theorem check_spec (m : Model) (hm' : okModel m) : Pf Tryz.prog model_Check.id [.agg m.cells] (.tup [V.i (checkB m).1, V.i (checkB m).2]) := by
  have hm : (maxLen : Int) ≤ 9223372036854775807 := by decide
  obtain ⟨⟨hv, hv'⟩, ⟨hc, hc'⟩, hg, _⟩ := hm'
  refine DC.of model_Check.ok (by simp) ?_
  unfold model_Check.ir
  refine vc_cut (fun s => gt s.sl 1 = .ptr 0 1 0 0 ∧ s.hp = [.mem false [] [m.cells]]) (by simp [Model.cells, vVars, vCons, vTerms]) ?_
  rintro ⟨sl, hp, bs⟩ ⟨h1, rfl⟩
  refine vc_cut (fun s => gt s.sl 1 = .ptr 0 1 0 0 ∧ s.hp = [.mem false [] [m.cells]] ∧ ¬ (m.vars.length = 0 ∨ 32 < m.vars.length)) ?_ ?_
  · by_cases l0 : m.vars = []
    · simp [h1, Model.cells, vVars, vCons, vTerms, l0, checkB, model_Check.rs]
    · have l0' : ¬ m.vars.length = 0 := by simpa using l0
      have l0'' : ¬ (m.vars.length : Int) = 0 := by omega
      by_cases l1 : 32 < m.vars.length
      · have l1' : (32 : Int) < m.vars.length := by omega
        simp [h1, Model.cells, vVars, vCons, vTerms, l0, l1, l1', checkB, model_Check.rs]
      · have l1' : ¬ (32 : Int) < m.vars.length := by omega
        simp [h1, Model.cells, vVars, vCons, vTerms, l0, l1, l1']
  rintro ⟨sl, hp, bs⟩ ⟨h1, rfl, hn⟩
  refine vc_cut (fun s => gt s.sl 1 = .ptr 0 1 0 0 ∧ s.hp = [.mem false [] [m.cells]] ∧ firstBad (varB m.vars) 0 m.vars = none) ?_ ?_
  · simp [h1, Model.cells, vVars, vCons, vTerms]
    refine WI.mono (Q := fun e s => (e = .exit 0 ∧ gt s.sl 1 = .ptr 0 1 0 0 ∧ s.hp = [.mem false [] [m.cells]] ∧ firstBad (varB m.vars) 0 m.vars = none) ∨ (e = .ret ∧ ∃ (i : Nat) (r : Int), firstBad (varB m.vars) 0 m.vars = some (i, r) ∧ gt s.sl 2 = V.i i ∧ gt s.sl 3 = V.i r)) (WI.loop 1 (by simp) (fun s => ∃ i, i ≤ m.vars.length ∧ gt s.sl 1 = .ptr 0 1 0 0 ∧ gt s.sl 22 = V.i m.vars.length ∧ gt s.sl 23 = V.i i ∧ s.hp = [.mem false [] [m.cells]] ∧ firstBad (varB m.vars) 0 m.vars = firstBad (varB m.vars) i (m.vars.drop i)) (fun s => (m.vars.length - (gt s.sl 23).num).toNat) ?_ ?_) ?_
    · exact ⟨0, by simp [h1, Model.cells, vVars, vCons, vTerms]⟩
    · rintro ⟨sl, hp, bs⟩ ⟨i, hi, h1, h22, h23, rfl, he⟩
      by_cases hil : i < m.vars.length
      · simp [model_Check.b0, h1, h22, h23, hil, Model.cells, vVars, vCons, vTerms]
        refine (variable_spec m.vars i hil hv (hv' _ (List.getElem_mem hil))).use ?_
        rw [firstBad_drop _ hil] at he
        have hw : IntKind.i64.wrap ((i : Int) + 1) = ((i + 1 : Nat) : Int) := by rw [wrap64] <;> omega
        by_cases hb : varB m.vars i m.vars[i] = 0
        · rw [if_pos hb] at he
          simp [hb, hw, Model.cells, vVars, vCons, vTerms]
          exact ⟨⟨i + 1, by omega, by omega, he⟩, by omega⟩
        · rw [if_neg hb] at he
          simp [hb, he]
      · obtain rfl : i = m.vars.length := by omega
        rw [List.drop_length] at he
        simp [model_Check.b0, h1, h22, h23, he, firstBad]
    · rintro e ⟨sl, hp, bs⟩ (⟨rfl, h1, rfl, he⟩ | ⟨rfl, i, r, he, h2, h3⟩)
      · simp [h1, he, Model.cells, vVars, vCons, vTerms]
      · have hC : checkB m = ((i : Int), r) := by unfold checkB; rw [if_neg hn, he]
        simp [h2, h3, hC, model_Check.rs]
  rintro ⟨sl, hp, bs⟩ ⟨h1, rfl, he1⟩
  refine vc_cut (fun s => gt s.sl 1 = .ptr 0 1 0 0 ∧ s.hp = [.mem false [] [m.cells]] ∧ ¬ 64 < m.cons.length) ?_ ?_
  · by_cases l1 : 64 < m.cons.length
    · have l1' : (64 : Int) < m.cons.length := by omega
      have hC : checkB m = ((m.vars.length : Int), 49) := by unfold checkB; rw [if_neg hn, he1]; simp only; rw [if_pos l1]
      simp [h1, Model.cells, vVars, vCons, vTerms, l1', hC, model_Check.rs]
    · have l1' : ¬ (64 : Int) < m.cons.length := by omega
      simp [h1, Model.cells, vVars, vCons, vTerms, l1, l1']
  rintro ⟨sl, hp, bs⟩ ⟨h1, rfl, hn2⟩
  refine vc_cut (fun s => gt s.sl 1 = .ptr 0 1 0 0 ∧ s.hp = [.mem false [] [m.cells]] ∧ firstBad (fun _ c => conB c m.vars.length) 0 m.cons = none) ?_ ?_
  · simp [h1, Model.cells, vVars, vCons, vTerms]
    refine WI.mono (Q := fun e s => (e = .exit 2 ∧ gt s.sl 1 = .ptr 0 1 0 0 ∧ s.hp = [.mem false [] [m.cells]] ∧ firstBad (fun _ c => conB c m.vars.length) 0 m.cons = none) ∨ (e = .ret ∧ ∃ (i : Nat) (r : Int), firstBad (fun _ c => conB c m.vars.length) 0 m.cons = some (i, r) ∧ gt s.sl 2 = V.i (m.vars.length + i) ∧ gt s.sl 3 = V.i r)) (WI.loop 1 (by simp) (fun s => ∃ i, i ≤ m.cons.length ∧ gt s.sl 1 = .ptr 0 1 0 0 ∧ gt s.sl 43 = vCons m.cons ∧ gt s.sl 44 = V.i m.cons.length ∧ gt s.sl 45 = V.i i ∧ s.hp = [.mem false [] [m.cells]] ∧ firstBad (fun _ c => conB c m.vars.length) 0 m.cons = firstBad (fun _ c => conB c m.vars.length) i (m.cons.drop i)) (fun s => (m.cons.length - (gt s.sl 45).num).toNat) ?_ ?_) ?_
    · exact ⟨0, by simp [h1, Model.cells, vVars, vCons, vTerms]⟩
    · rintro ⟨sl, hp, bs⟩ ⟨i, hi, h1, h43, h22, h23, rfl, he⟩
      by_cases hil : i < m.cons.length
      · simp [model_Check.b1, h1, h43, h22, h23, hil, Model.cells, vVars, vCons, vTerms, Con.cells, vInts, vIntss]
        refine (con_spec m.cons[i] m.vars.length (hc' _ (List.getElem_mem hil))).use ?_
        rw [firstBad_drop _ hil] at he
        have hw : IntKind.i64.wrap ((i : Int) + 1) = ((i + 1 : Nat) : Int) := by rw [wrap64] <;> omega
        have hw2 : IntKind.i64.wrap ((m.vars.length : Int) + i) = m.vars.length + i := by rw [wrap64] <;> omega
        by_cases hb : conB m.cons[i] m.vars.length = 0
        · rw [if_pos hb] at he
          simp [hb, hw, Model.cells, vVars, vCons, vTerms]
          exact ⟨⟨i + 1, by omega, by omega, he⟩, by omega⟩
        · rw [if_neg hb] at he
          simp [hb, he, hw2]
      · obtain rfl : i = m.cons.length := by omega
        rw [List.drop_length] at he
        simp [model_Check.b1, h1, h22, h23, he, firstBad]
    · rintro e ⟨sl, hp, bs⟩ (⟨rfl, h1, rfl, he⟩ | ⟨rfl, i, r, he, h2, h3⟩)
      · simp [h1, he, Model.cells, vVars, vCons, vTerms]
      · have hC : checkB m = ((m.vars.length : Int) + i, r) := by unfold checkB; rw [if_neg hn, he1]; simp only; rw [if_neg hn2, he]
        simp [h2, h3, hC, model_Check.rs]
  rintro ⟨sl, hp, bs⟩ ⟨h1, rfl, he2⟩
  simp [h1, Model.cells, vVars, vCons, vTerms]
  refine (goal_spec m hg).use ?_
  have hw2 : IntKind.i64.wrap ((m.vars.length : Int) + m.cons.length) = m.vars.length + m.cons.length := by rw [wrap64] <;> omega
  by_cases hb : goalB m = 0
  · have hC : checkB m = (0, 0) := by unfold checkB; rw [if_neg hn, he1]; simp only; rw [if_neg hn2, he2]; simp [hb]
    simp [hb, hC, model_Check.rs]
  · have hC : checkB m = ((m.vars.length : Int) + m.cons.length, goalB m) := by unfold checkB; rw [if_neg hn, he1]; simp only; rw [if_neg hn2, he2]; simp [hb]
    simp [hb, hC, hw2, model_Check.rs]

end Go.Abs.G



namespace Go.Abs.G
open Go.Proofs
set_option linter.unusedVariables false
set_option linter.unusedSimpArgs false
attribute [local simp] I.vc sub merge place

def Dom.add (d : Dom) (k : Nat) : Dom := if k < 32 then { d with a := sett d.a k } else { d with b := sett d.b (k - 32) }
def fillTo (d : Dom) : Nat → Dom
  | 0 => d
  | n + 1 => (fillTo d n).add n
theorem add_from (d : Dom) (k : Nat) : (d.add k).from' = d.from' := by unfold Dom.add; split <;> rfl
theorem add_width (d : Dom) (k : Nat) : (d.add k).width = d.width := by unfold Dom.add; split <;> rfl
theorem add_ok {d : Dom} (k : Nat) (h : d.ok) : (d.add k).ok := by
  unfold Dom.add; split
  · exact ⟨h.f, h.w, sett_lt _ _, h.b⟩
  · exact ⟨h.f, h.w, h.a, sett_lt _ _⟩
theorem fillTo_ok {d : Dom} (h : d.ok) : ∀ n, (fillTo d n).ok
  | 0 => h
  | n + 1 => add_ok _ (fillTo_ok h n)
theorem fillTo_from (d : Dom) : ∀ n, (fillTo d n).from' = d.from'
  | 0 => rfl
  | n + 1 => by simp [fillTo, add_from, fillTo_from d n]
theorem fillTo_width (d : Dom) : ∀ n, (fillTo d n).width = d.width
  | 0 => rfl
  | n + 1 => by simp [fillTo, add_width, fillTo_width d n]
def dom0 (v : Var) : Dom := ⟨v.lo, (v.hi - v.lo + 1).toNat, 0, 0⟩
def domOf (v : Var) : Dom := fillTo (dom0 v) (dom0 v).width
theorem dom0_ok {v : Var} (h : VarOk v) : (dom0 v).ok := by
  obtain ⟨h1, h2, h3, h4⟩ := h
  exact ⟨by simp [dom0]; omega, by simp [dom0]; omega, by simp [dom0], by simp [dom0]⟩
theorem add_row (d : Dom) (k : Nat) (hk : k < 64) : (if k < 32 then [V.i d.from', V.i d.width, V.w (sett d.a k), V.w d.b] else [V.i d.from', V.i d.width, V.w d.a, V.w (sett d.b (k - 32))]) = (d.add k).row := by
  unfold Dom.add; split <;> rfl

def newH (B : O) (s : List Dom) : Heap := [B, .mem false [2, 3] [[.own 2 4 0 s.length s.length, .own 3 1 0 0 0]], .mem false [] (s.map Dom.row), .tree [] []]
def domsOf (m : Model) : List Dom := if (checkB m).2 = 0 then m.vars.map domOf else []

@[simp] theorem vVars_ids (l : List Var) : (vVars l).ids = [] := rfl
@[simp] theorem lim_vVars (n : Nat) (l : List Var) : lim n (vVars l) = vVars l := rfl

theorem new_spec (m : Model) (hm : okModel m) : DC Tryz.prog dom_New.id [.agg m.cells] [] (fun r H => r = .ptr 1 1 0 0 ∧ ∃ B, H = newH B (domsOf m)) := by
  refine DC.trim (Q := fun r H => r = .ptr 1 1 0 0 ∧ ∃ E, H = newH (.mem false [] [m.cells]) (domsOf m) ++ E) ?_ ?_
  rotate_left
  · rintro r H ⟨rfl, E, rfl⟩
    exact ⟨4, by simp, by simp [V.ids], rfl, .mem false [] [m.cells], rfl⟩
  have hc := check_spec m hm
  refine DC.of dom_New.ok (by simp) ?_
  unfold dom_New.ir
  refine vc_cut (fun st => gt st.sl 1 = .ptr 0 1 0 0 ∧ st.hp = [.mem false [] [m.cells]]) (by simp [Model.cells, vVars, vCons, vTerms]) ?_
  rintro ⟨sl, hp, bs⟩ ⟨h1, rfl⟩
  refine vc_cut (fun st => gt st.sl 1 = .ptr 0 1 0 0 ∧ gt st.sl 3 = .ptr 1 1 0 0 ∧ st.hp = [.mem false [] [m.cells], .mem false [] [[nilS, nilS]]]) (by simp [h1]) ?_
  clear h1
  rintro ⟨sl, hp, bs⟩ ⟨h1, h3, rfl⟩
  refine vc_cut (fun st => (checkB m).2 = 0 ∧ gt st.sl 1 = .ptr 0 1 0 0 ∧ gt st.sl 3 = .ptr 1 1 0 0 ∧ st.hp = [.mem false [] [m.cells], .mem false [] [[nilS, nilS]]]) ?_ ?_
  · have hcl : m.cells.length = 4 := rfl
    have htk : m.cells.take 4 = m.cells := rfl
    simp [h1, h3, hcl, htk]
    refine ⟨rfl, hc.use ?_⟩
    by_cases hz : (checkB m).2 = 0
    · simp [hz]
    · simp [hz]
      refine ⟨_, Weak.nil2 (id := 1) (e1 := 4) (e2 := 1) (t := 3) rfl (by simp), ?_⟩
      simp [dom_New.rs, newH, domsOf, hz]
      skip
  clear h1 h3
  rintro ⟨sl, hp, bs⟩ ⟨hz, h1, h3, rfl⟩
  have hR : Right m := right_iff.1 (by simp [rightB, hz])
  have hD : domsOf m = m.vars.map domOf := by simp [domsOf, hz]
  rw [hD]
  refine vc_cut (fun st => gt st.sl 3 = .ptr 1 1 0 0 ∧ st.hp = newH (.mem false [] [m.cells]) (m.vars.map domOf)) ?_ ?_
  · refine vc_cut (fun st => gt st.sl 3 = .ptr 1 1 0 0 ∧ gt st.sl 21 = vVars m.vars ∧ gt st.sl 22 = V.i m.vars.length ∧ gt st.sl 23 = V.i 0 ∧ st.hp = newH (.mem false [] [m.cells]) []) ?_ ?_
    · 
      simp [h1, h3]
      refine ⟨_, Weak.nil2 (id := 1) (e1 := 4) (e2 := 1) (t := 3) rfl (by simp [h3]), ?_⟩
      simp [newH, Model.cells, vVars, h1, h3]
    clear h1 h3
    rintro ⟨sl, hp, bs⟩ ⟨h3, h21, h22, h23, rfl⟩
    simp [h3, h21, h22, h23]
    refine WI.mono (Q := fun e st => e = .exit 0 ∧ gt st.sl 3 = .ptr 1 1 0 0 ∧ st.hp = newH (.mem false [] [m.cells]) (m.vars.map domOf))
      (WI.loop 4 (by simp [newH]) (fun st => ∃ j, j ≤ m.vars.length ∧ gt st.sl 3 = .ptr 1 1 0 0 ∧ gt st.sl 21 = vVars m.vars ∧ gt st.sl 22 = V.i m.vars.length ∧ gt st.sl 23 = V.i j ∧ st.hp = newH (.mem false [] [m.cells]) ((m.vars.take j).map domOf)) (fun st => (m.vars.length - (gt st.sl 23).num).toNat) ?_ ?_) ?_
    · exact ⟨0, by simp [h3, h21, h22, h23]⟩
    · clear h3 h21 h22 h23
      rintro ⟨sl, hp, bs⟩ ⟨j, hj, h3, h21, h22, h23, rfl⟩
      by_cases hjl : j < m.vars.length
      · have hvo := VarOk.of (hR.var j _ (List.getElem?_eq_getElem hjl))
        have hnv := hR.nv
        obtain ⟨v, hv⟩ : ∃ v, v = m.vars[j] := ⟨_, rfl⟩
        rw [← hv] at hvo
        have hw : IntKind.i64.wrap ((j : Int) + 1) = ((j + 1 : Nat) : Int) := by rw [wrap64] <;> omega
        obtain ⟨L, hL⟩ : ∃ L, L = (m.vars.take j).map domOf := ⟨_, rfl⟩
        have hLl : L.length = j := by rw [hL, List.length_map, List.length_take]; omega
        have hT : (m.vars.take (j + 1)).map domOf = L ++ [domOf v] := by
          rw [List.take_succ_eq_append_getElem hjl, List.map_append, ← hL, ← hv]; rfl
        rw [← hL]
        have hμ := h23
        unfold dom_New.b0
        refine vc_cut (fun st => gt st.sl 3 = .ptr 1 1 0 0 ∧ gt st.sl 21 = vVars m.vars ∧ gt st.sl 22 = V.i m.vars.length ∧ gt st.sl 23 = V.i j ∧ gt st.sl 24 = .bool true ∧ st.hp = newH (.mem false [] [m.cells]) L) (by simp [h3, h21, h22, h23, hjl]) ?_
        clear h3 h21 h22 h23
        rintro ⟨sl, hp, bs⟩ ⟨h3, h21, h22, h23, h24, rfl⟩
        refine vc_cut (fun st => gt st.sl 3 = .ptr 1 1 0 0 ∧ gt st.sl 21 = vVars m.vars ∧ gt st.sl 22 = V.i m.vars.length ∧ gt st.sl 23 = V.i j ∧ st.hp = newH (.mem false [] [m.cells]) L) (by simp [h3, h21, h22, h23, h24]) ?_
        clear h3 h21 h22 h23 h24
        rintro ⟨sl, hp, bs⟩ ⟨h3, h21, h22, h23, rfl⟩
        have hvl : v.cells.length = 3 := rfl
        have f1 := hvo.lo
        have f2 := hvo.hi
        have f3 := hvo.le
        have f4 := hvo.dom
        have hok := dom0_ok hvo
        have hw1 : IntKind.i64.wrap (v.hi - v.lo) = v.hi - v.lo := by rw [wrap64] <;> omega
        have hw2 : IntKind.i64.wrap (v.hi - v.lo + 1) = v.hi - v.lo + 1 := by rw [wrap64] <;> omega
        have hwd : ((dom0 v).width : Int) = v.hi - v.lo + 1 := by simp [dom0]; omega
        have hr0 : (dom0 v).row = [V.i v.lo, V.i (v.hi - v.lo + 1), V.w 0, V.w 0] := by rw [← hwd]; rfl
        refine vc_cut (fun st => gt st.sl 3 = .ptr 1 1 0 0 ∧ gt st.sl 21 = vVars m.vars ∧ gt st.sl 22 = V.i m.vars.length ∧ gt st.sl 23 = V.i j ∧ ∃ E, st.hp = newH (.mem false [] [m.cells]) (L ++ [domOf v]) ++ E) ?_ ?_
        · refine vc_cut (fun st => gt st.sl 3 = .ptr 1 1 0 0 ∧ gt st.sl 7 = .ptr 4 1 0 0 ∧ gt st.sl 21 = vVars m.vars ∧ gt st.sl 22 = V.i m.vars.length ∧ gt st.sl 23 = V.i j ∧ st.hp = newH (.mem false [] [m.cells]) L ++ [.mem false [] [v.cells]]) ?_ ?_
          · simp [h3, h21, h22, h23, hjl, vVars, newH, ← hv, Var.cells]
          clear h3 h21 h22 h23
          rintro ⟨sl, hp, bs⟩ ⟨h3, h7, h21, h22, h23, rfl⟩
          refine vc_cut (fun st => gt st.sl 3 = .ptr 1 1 0 0 ∧ gt st.sl 8 = .ptr 5 1 0 0 ∧ gt st.sl 21 = vVars m.vars ∧ gt st.sl 22 = V.i m.vars.length ∧ gt st.sl 23 = V.i j ∧ st.hp = newH (.mem false [] [m.cells]) L ++ [.mem false [] [v.cells], .mem false [] [(dom0 v).row]]) ?_ ?_
          · simp [h3, h7, h21, h22, h23, newH, Var.cells, hw1, hw2, hr0]
          clear h3 h7 h21 h22 h23
          rintro ⟨sl, hp, bs⟩ ⟨h3, h8, h21, h22, h23, rfl⟩
          refine vc_cut (fun st => gt st.sl 3 = .ptr 1 1 0 0 ∧ gt st.sl 8 = .ptr 5 1 0 0 ∧ gt st.sl 21 = vVars m.vars ∧ gt st.sl 22 = V.i m.vars.length ∧ gt st.sl 23 = V.i j ∧ st.hp = newH (.mem false [] [m.cells]) L ++ [.mem false [] [v.cells], .mem false [] [(domOf v).row]]) ?_ ?_
          · obtain ⟨D, hDD⟩ : ∃ D, D = dom0 v := ⟨_, rfl⟩
            have hdo : domOf v = fillTo D D.width := by rw [hDD]; rfl
            rw [hdo, ← hDD]
            rw [← hDD] at hok
            have hwl := hok.w
            simp [h3, h8, h21, h22, h23, newH]
            refine WI.mono (Q := fun e st => e = .exit 2 ∧ gt st.sl 3 = .ptr 1 1 0 0 ∧ gt st.sl 8 = .ptr 5 1 0 0 ∧ gt st.sl 21 = vVars m.vars ∧ gt st.sl 22 = V.i m.vars.length ∧ gt st.sl 23 = V.i j ∧ st.hp = newH (.mem false [] [m.cells]) L ++ [.mem false [] [v.cells], .mem false [] [(fillTo D D.width).row]])
              (WI.loop 6 (by simp) (fun st => ∃ i, i ≤ D.width ∧ gt st.sl 3 = .ptr 1 1 0 0 ∧ gt st.sl 8 = .ptr 5 1 0 0 ∧ gt st.sl 21 = vVars m.vars ∧ gt st.sl 22 = V.i m.vars.length ∧ gt st.sl 23 = V.i j ∧ gt st.sl 37 = V.i D.width ∧ gt st.sl 38 = V.i i ∧ st.hp = newH (.mem false [] [m.cells]) L ++ [.mem false [] [v.cells], .mem false [] [(fillTo D i).row]]) (fun st => (D.width - (gt st.sl 38).num).toNat) ?_ ?_) ?_
            · exact ⟨0, by simp [h3, h8, h21, h22, h23, newH, fillTo]⟩
            · clear h3 h8 h21 h22 h23
              rintro ⟨sl, hp, bs⟩ ⟨i, hi, h3, h8, h21, h22, h23, h37, h38, rfl⟩
              by_cases hil : i < D.width
              · have hwi : IntKind.i64.wrap ((i : Int) + 1) = ((i + 1 : Nat) : Int) := by rw [wrap64] <;> omega
                have ht : ((i : Int).tmod 32) = ((i % 32 : Nat) : Int) := by rw [Int.tmod_eq_emod_of_nonneg (by omega)]; rfl
                have hm' : ((i : Int) % 32).toNat = i % 32 := by omega
                have hp' : 0 ≤ (i : Int) % 32 := by omega
                have hadd := add_row (fillTo D i) i (by omega)
                have hsucc : fillTo D (i + 1) = (fillTo D i).add i := rfl
                by_cases h : i < 32
                · have h1 : IntKind.i64.wrap ((i : Int) / 32) = 0 := by rw [wrap64] <;> omega
                  have h2 : i % 32 = i := by omega
                  rw [if_pos h] at hadd
                  simp [dom_New.b1, newH, ht, hm', hp', h2, h3, h8, h21, h22, h23, h37, h38, hil, hwi, h1, h, bits32, limO, O.refs]
                  refine ⟨⟨i + 1, by omega, by omega, ?_⟩, by omega⟩
                  rw [hsucc, ← hadd]
                  exact congrArg (fun n => [V.i (fillTo D i).from', V.i (fillTo D i).width, V.a (.int .u32 n), V.w (fillTo D i).b]) (sett32 h)
                · have h1 : IntKind.i64.wrap ((i : Int) / 32) = 1 := by rw [wrap64] <;> omega
                  have h2 : i % 32 = i - 32 := by omega
                  have h3' : i - 32 < 32 := by omega
                  rw [if_neg h] at hadd
                  simp [dom_New.b1, newH, ht, hm', hp', h2, h3, h8, h21, h22, h23, h37, h38, hil, hwi, h1, h, bits32, limO, O.refs]
                  refine ⟨⟨i + 1, by omega, by omega, ?_⟩, by omega⟩
                  rw [hsucc, ← hadd]
                  exact congrArg (fun n => [V.i (fillTo D i).from', V.i (fillTo D i).width, V.w (fillTo D i).a, V.a (.int .u32 n)]) (sett32 h3')
              · obtain rfl : i = D.width := by omega
                simp [dom_New.b1, h3, h8, h21, h22, h23, h37, h38]
            · rintro e ⟨sl, hp, bs⟩ ⟨rfl, h3, h8, h21, h22, h23, rfl⟩
              simp [h3, h8, h21, h22, h23, newH]
          clear h3 h8 h21 h22 h23
          rintro ⟨sl, hp, bs⟩ ⟨h3, h8, h21, h22, h23, rfl⟩
          simp [h3, h8, h21, h22, h23, newH, hLl]
          omega
        clear h3 h21 h22 h23
        rintro ⟨sl, hp, bs⟩ ⟨h3, h21, h22, h23, E, rfl⟩
        simp [h3, h21, h22, h23, newH, hLl, hw, hμ, limO, O.refs]
        refine ⟨⟨j + 1, by omega, by omega, by omega, ?_⟩, by omega⟩
        rw [← List.map_take, ← List.map_map, hT]
        simp
      · obtain rfl : j = m.vars.length := by omega
        simp [dom_New.b0, h3, h21, h22, h23]
    · rintro e ⟨sl, hp, bs⟩ ⟨rfl, h3, rfl⟩
      simp [h3]
  clear h1 h3
  rintro ⟨sl, hp, bs⟩ ⟨h3, rfl⟩
  simp [h3, dom_New.rs]
end Go.Abs.G


namespace Go.Abs.G
open Go.Proofs
set_option linter.unusedVariables false
set_option linter.unusedSimpArgs false
attribute [local simp] I.vc

end Go.Abs.G


namespace Go.Abs.G
open Go.Proofs
set_option linter.unusedVariables false
set_option linter.unusedSimpArgs false
attribute [local simp] I.vc

theorem mT_len (ms : List (List Dom)) : (mT ms).length = ms.length := by simp [mT]

end Go.Abs.G


namespace Go.Abs.G
open Go.Proofs
set_option linter.unusedVariables false
set_option linter.unusedSimpArgs false
attribute [local simp] I.vc

theorem kids_get (es : Nat) : ∀ (n : Nat) (l : List (List (List Ce))) (i : Nat) (L : List (List Ce)), l[i]? = some L → (kids es n l)[i]? = some ⟨n + i, es, [], L⟩
  | _, [], i, L, h => by simp at h
  | n, M :: l, 0, L, h => by simp at h; subst h; rfl
  | n, M :: l, i + 1, L, h => by
    have := kids_get es (n + 1) l i L (by simpa using h)
    simp only [kids, List.getElem?_cons_succ, this]
    have e : n + 1 + i = n + (i + 1) := by omega
    rw [e]
end Go.Abs.G


namespace Go.Abs.G
open Go.Proofs
set_option linter.unusedVariables false
set_option linter.unusedSimpArgs false
attribute [local simp] I.vc

end Go.Abs.G


namespace Go.Abs.G
open Go.Proofs
set_option linter.unusedVariables false
set_option linter.unusedSimpArgs false
attribute [local simp] I.vc

end Go.Abs.G


namespace Go.Abs.G
open Go.Proofs
set_option linter.unusedVariables false
set_option linter.unusedSimpArgs false
attribute [local simp] I.vc

theorem domCe_ren (f : Nat → Nat) (L : List Dom) : Ce.renR f (L.map domCe) = L.map domCe := by
  induction L with
  | nil => rfl
  | cons d L ih =>
    have : Ce.renL f (domCe d) = domCe d := rfl
    simp [Ce.renR, this, ih]
theorem mT_ren (f : Nat → Nat) (ms : List (List Dom)) : Ce.renR f (mT ms) = mT ms := by
  induction ms with
  | nil => rfl
  | cons L ms ih =>
    have h : Ce.renR f (ms.map fun L => [Ce.n 4 (L.map domCe)]) = ms.map fun L => [Ce.n 4 (L.map domCe)] := ih
    simp [mT, Ce.renR, Ce.renL, Ce.ren, domCe_ren, h]
structure SOk (s : List Dom) (ms : List (List Dom)) : Prop where
  n : s.length ≤ 64
  k : ms.length ≤ 1000000
  d : ∀ d ∈ s, d.ok
theorem SOk.st {s : List Dom} {ms : List (List Dom)} (h : SOk s ms) : StOk s (mT ms) := ⟨h.n, by rw [mT_len]; exact h.k, h.d, fun f => mT_ren f ms⟩

section
variable {s : List Dom} {ms : List (List Dom)} (h : SOk s ms)
include h
theorem sizeP (x : Int) : DC Tryz.prog dom_Store_Size.id [.ptr 0 1 0 0, V.i x] [St1 s (mT ms)] fun r H => r = V.i (if isB s x then (((s[x.toNat]?).map Dom.size).getD 0 : Nat) else 0 : Int) ∧ H = [St1 s (mT ms)] :=
  DC.packed (mT_ids ms) (mT_ids ms) (Q := fun r => r = V.i (if isB s x then (((s[x.toNat]?).map Dom.size).getD 0 : Nat) else 0 : Int)) (sizeS_spec h.st x) (by rintro r rfl; rfl)
theorem hasP (x v : Int) (hv : I64 v) : DC Tryz.prog dom_Store_Has.id [.ptr 0 1 0 0, V.i x, V.i v] [St1 s (mT ms)] fun r H => r = .bool (hasB s x v) ∧ H = [St1 s (mT ms)] :=
  DC.packed (mT_ids ms) (mT_ids ms) (Q := fun r => r = .bool (hasB s x v)) (hasS_spec h.st x v hv) (by rintro r rfl; rfl)
theorem valuesP (x : Int) : DC Tryz.prog dom_Store_Values.id [.ptr 0 1 0 0, V.i x] [St1 s (mT ms)] fun r H => r = vInts (valsB s x) ∧ H = [St1 s (mT ms)] :=
  DC.packed (mT_ids ms) (mT_ids ms) (Q := fun r => r = vInts (valsB s x)) (values_spec h.st x) (by rintro r rfl; rfl)
theorem openP : DC Tryz.prog dom_Store_Open.id [.ptr 0 1 0 0] [St1 s (mT ms)] fun r H => r = vInts (openB s s.length) ∧ H = [St1 s (mT ms)] :=
  DC.packed (mT_ids ms) (mT_ids ms) (Q := fun r => r = vInts (openB s s.length)) (open_spec h.st) (by rintro r rfl; rfl)
theorem cutP (k x v : Int) : DC Tryz.prog dom_Store_Cut.id [.ptr 0 1 0 0, .agg [V.i k, V.i x, V.i v]] [St1 s (mT ms)] fun r H => r = .tup [.bool (cutS s k x v).2.1, .bool (cutS s k x v).2.2] ∧ H = [St1 (cutS s k x v).1 (mT ms)] :=
  DC.packed (mT_ids ms) (mT_ids ms) (Q := fun r => r = .tup [.bool (cutS s k x v).2.1, .bool (cutS s k x v).2.2]) (cut_spec h.st k x v) (by rintro r rfl; rfl)
theorem loP (x : Int) (hne : isB s x = true → valsB s x ≠ []) : DC Tryz.prog dom_Store_Lo.id [.ptr 0 1 0 0, V.i x] [St1 s (mT ms)] fun r H => r = V.i (if isB s x then (valsB s x).headD 0 else 0) ∧ H = [St1 s (mT ms)] :=
  DC.packed (mT_ids ms) (mT_ids ms) (Q := fun r => r = V.i (if isB s x then (valsB s x).headD 0 else 0)) (lo_spec h.st x hne) (by rintro r rfl; rfl)
theorem hiP (x : Int) (hne : isB s x = true → valsB s x ≠ []) : DC Tryz.prog dom_Store_Hi.id [.ptr 0 1 0 0, V.i x] [St1 s (mT ms)] fun r H => r = V.i (if isB s x then (valsB s x).getLastD 0 else 0) ∧ H = [St1 s (mT ms)] :=
  DC.packed (mT_ids ms) (mT_ids ms) (Q := fun r => r = V.i (if isB s x then (valsB s x).getLastD 0 else 0)) (hi_spec h.st x hne) (by rintro r rfl; rfl)
end
end Go.Abs.G


namespace Go.Abs.G
open Go.Proofs
set_option linter.unusedVariables false
set_option linter.unusedSimpArgs false
attribute [local simp] I.vc

theorem close_storeAt {w : World} {β : Nat → Hd} {F : Nat → Prop} {H : Heap} {s : List Dom} {T : List (List Ce)} {rf rb : List Nat} {p a b : Nat} (hk : HOK w.heap H β F)
    (h0 : H[p]? = some (.mem false rf [[.own a 4 0 s.length s.length, .own b 1 0 T.length T.length]])) (ha : H[a]? = some (.mem false [] (s.map Dom.row))) (hb : H[b]? = some (.tree rb T)) (hT : Ce.idsR T = [])
    (na : a ≠ p) (nb : b ≠ p) (nab : a ≠ b) (hlo : (β p).lo = 0) : ∃ β' H2, Adv F w H β w H2 β' ∧ H2[p]? = some (St1 s T) ∧ H2.length = H.length := by
  obtain ⟨β1, a1⟩ := adv_toTree hk h0 hlo
  generalize hP : O.tree rf (flatC [[.own a 4 0 s.length s.length, .own b 1 0 T.length T.length]]) = P at a1
  have p1 : (H.set p P)[p]? = some (.tree rf [[.v (.own a 4 0 s.length s.length), .v (.own b 1 0 T.length T.length)]]) := by rw [get_set h0, ← hP]; rfl
  have q1 : (H.set p P)[a]? = some (.mem false [] (s.map Dom.row)) := by rw [getElem?_set_ne' na]; exact ha
  have r1 : (H.set p P)[b]? = some (.tree rb T) := by rw [getElem?_set_ne' nb]; exact hb
  have la : (β1 a).lo = 0 := lo_of_tree (i := 0) (j := 0) a1.hok p1 rfl rfl (by unfold hdOf; rw [q1]; simp)
  have hl1 : (H.set p P).length = H.length := List.length_set
  generalize H.set p P = H1 at a1 p1 q1 r1 hl1
  obtain ⟨β2, a2⟩ := adv_toTree a1.hok q1 la
  rw [← domCe_flat] at a2
  have p2 : (H1.set a (.tree [] (s.map domCe)))[p]? = some (.tree rf [[.v (.own a 4 0 s.length s.length), .v (.own b 1 0 T.length T.length)]]) := by rw [getElem?_set_ne' (Ne.symm na)]; exact p1
  have q2 : (H1.set a (.tree [] (s.map domCe)))[a]? = some (.tree [] (s.map domCe)) := get_set q1
  have r2 : (H1.set a (.tree [] (s.map domCe)))[b]? = some (.tree rb T) := by rw [getElem?_set_ne' (Ne.symm nab)]; exact r1
  have hl2 : (H1.set a (.tree [] (s.map domCe))).length = H.length := by rw [List.length_set]; exact hl1
  generalize H1.set a (.tree [] (s.map domCe)) = H2 at a2 p2 q2 r2 hl2
  obtain ⟨β3, a3⟩ := adv_pack (i := 0) (j := 0) a2.hok p2 q2 (Ne.symm na) rfl rfl (by simp)
  generalize hP3 : O.tree (rf ++ []) _ = P3 at a3
  have p3 : ((H2.set a O.dead).set p P3)[p]? = some (.tree (rf ++ []) [[.n 4 (s.map domCe), .v (.own b 1 0 T.length T.length)]]) := by rw [get_set (x := _) (by rw [getElem?_set_ne' (Ne.symm na)]; exact p2), ← hP3]; rfl
  have r3 : ((H2.set a O.dead).set p P3)[b]? = some (.tree rb T) := by rw [getElem?_set_ne' nb, getElem?_set_ne' (Ne.symm nab)]; exact r2
  have hl3 : ((H2.set a O.dead).set p P3).length = H.length := by rw [List.length_set, List.length_set]; exact hl2
  generalize (H2.set a O.dead).set p P3 = H3 at a3 p3 r3 hl3
  obtain ⟨β4, a4⟩ := adv_pack (i := 0) (j := 1) a3.hok p3 r3 (Ne.symm nb) rfl rfl rfl
  generalize hP4 : O.tree (rf ++ [] ++ rb) _ = P4 at a4
  have p4 : ((H3.set b O.dead).set p P4)[p]? = some (.tree (rf ++ [] ++ rb) [[.n 4 (s.map domCe), .n 1 T]]) := by rw [get_set (x := _) (by rw [getElem?_set_ne' (Ne.symm nb)]; exact p3), ← hP4]; rfl
  have hl4 : ((H3.set b O.dead).set p P4).length = H.length := by rw [List.length_set, List.length_set]; exact hl3
  generalize (H3.set b O.dead).set p P4 = H4 at a4 p4 hl4
  obtain ⟨β5, a5⟩ := adv_refsT (refs' := []) a4.hok p4 (by simp [Ce.idsR, Ce.idsL, Ce.ids, domCe_ids, hT])
  exact ⟨β5, _, a1.trans (a2.trans (a3.trans (a4.trans a5))), get_set p4, by rw [List.length_set]; exact hl4⟩

theorem newP (m : Model) (hm : okModel m) : DC Tryz.prog dom_New.id [.agg m.cells] [] (fun r H => r = .ptr 1 1 0 0 ∧ ∃ B, H = [B, St1 (domsOf m) (mT [])]) := by
  refine DC.trim (Q := fun r H => r = .ptr 1 1 0 0 ∧ H[1]? = some (St1 (domsOf m) (mT []))) ?_ ?_
  rotate_left
  · rintro r H ⟨rfl, h2⟩
    refine ⟨2, by simp, by simp [V.ids], rfl, ?_⟩
    match H, h2 with
    | x :: y :: tl, h2 =>
      simp at h2
      subst h2
      exact ⟨limO 2 x, by simp [St1, limO, O.refs]⟩
  refine DC.post' (new_spec m hm) ?_
  rintro x H1 ⟨rfl, B, rfl⟩ w β F vs hk hr
  obtain ⟨β', H2, a, h2, _⟩ := close_storeAt (p := 1) (a := 2) (b := 3) (rf := [2, 3]) (rb := []) (s := domsOf m) (T := mT []) hk rfl rfl rfl (mT_ids []) (by simp) (by simp) (by simp) (lo_arg (i := 0) hr rfl rfl)
  exact ⟨β', H2, a, rfl, h2⟩
end Go.Abs.G


namespace Go.Abs.G
open Go.Proofs
attribute [local simp] I.vc sub merge place
set_option linter.unusedVariables false
set_option linter.unusedSimpArgs false

end Go.Abs.G



namespace Go.Abs.G
open Go.Proofs
attribute [local simp] I.vc sub merge place
set_option linter.unusedVariables false
set_option linter.unusedSimpArgs false

end Go.Abs.G



/- Holds, Solution: what they tell. -/
namespace Go.Abs

structure ConOk (c : Con) (vars : Nat) (n : Needs) : Prop where
  terms : ∀ t ∈ c.terms, TermOk vars t
  termsN : c.terms.length ≤ 64
  xs : ∀ x ∈ c.xs, 0 ≤ x ∧ x < vars
  xsN : c.xs.length ≤ 64
  xs1 : n.xs = true → 1 ≤ c.xs.length
  x : n.x = true → 0 ≤ c.x ∧ c.x < vars
  y : n.y = true → 0 ≤ c.y ∧ c.y < vars
  k : -1000000000 ≤ c.k ∧ c.k ≤ 1000000000
  rowsN : c.rows.length ≤ 64
  tableN : c.table.length ≤ 64

theorem ConOk.of {c : Con} {vars : Nat} {n : Needs} (h : conN c vars n = 0) : ConOk c vars n := by
  unfold conN at h
  split at h
  · cases h
  · split at h
    · cases h
    · next h1 =>
      split at h
      · cases h
      · next h2 =>
        split at h
        · cases h
        · next h3 =>
          split at h
          · cases h
          · next h4 =>
            split at h
            · cases h
            · next h5 =>
              simp only [Bool.or_eq_true, not_or, Bool.not_eq_true', Bool.and_eq_true, not_and, decide_eq_true_eq, Bool.not_eq_false] at h2 h3 h5
              obtain ⟨⟨⟨t1, t2⟩, t3⟩, t4⟩ := h2
              obtain ⟨⟨⟨v1, v2⟩, v3⟩, v4⟩ := h3
              obtain ⟨⟨⟨k1, k2⟩, k3⟩, k4⟩ := h5
              have hf : ∀ {a : Bool} {k : Nat}, fieldB c n = false → (!a && decide (0 < k)) = false → countsB a k = true → k ≤ 64 := by
                intro a k _ h h'
                unfold countsB at h'
                cases a <;> simp at h h' <;> omega
              have hfield : fieldB c n = false := by simpa using h1
              have hfl := hfield
              unfold fieldB at hfl
              simp only [Bool.or_eq_false_iff] at hfl
              obtain ⟨⟨⟨⟨_, f1⟩, f2⟩, f3⟩, f4⟩ := hfl
              refine ⟨TermOk.of (by simpa using v1) (by simpa using h4), hf hfield f1 t1, fun x hx => ?_, hf hfield f2 t2, fun hn => ?_, fun hn => ?_, fun hn => ?_, ?_, ?_, hf hfield f3 t3⟩
              · have := (List.any_eq_false.1 (by simpa using v4 : c.xs.any (noB vars) = false)) x hx
                simp [noB] at this
                omega
              · unfold countsB at t2
                rw [hn] at t2
                simp at t2
                omega
              · have := v2 hn
                simp [noB] at this
                omega
              · have := v3 hn
                simp [noB] at this
                omega
              · simp [withinB] at k1
                omega
              · cases hn : n.rows
                · rw [hn] at f4
                  simp at f4
                  simp [f4]
                · have h5' := t4
                  simp [wideB, hn, countsB] at h5'
                  omega
end Go.Abs

namespace Go.Abs.G
open Go.Proofs
attribute [local simp] I.vc sub merge place
set_option linter.unusedVariables false
set_option linter.unusedSimpArgs false

structure AtOk (f : FuncId) (cap : List V) (g : Int → Int) (vars : Nat) : Prop where
  ok : okFunc Tryz.prog f = true
  ids : V.idsL cap = []
  run : ∀ x : Int, 0 ≤ x → x < vars → DP Tryz.prog f (V.i x :: cap) fun r => r = V.i (g x)
  bound : ∀ x : Int, 0 ≤ x → x < vars → -1000000000 ≤ g x ∧ g x ≤ 1000000000

section
variable {f : FuncId} {cap : List V} {g : Int → Int} {vars : Nat} (A : AtOk f cap g vars)
include A

end
end Go.Abs.G



namespace Go.Abs.G
open Go.Proofs
attribute [local simp] I.vc sub merge place
set_option linter.unusedVariables false
set_option linter.unusedSimpArgs false

section
variable {f : FuncId} {cap : List V} {g : Int → Int} {vars : Nat} (A : AtOk f cap g vars)
include A

end
end Go.Abs.G



namespace Go.Abs.G
open Go.Proofs
attribute [local simp] I.vc sub merge place
set_option linter.unusedVariables false
set_option linter.unusedSimpArgs false
theorem clone_int (rows : List (List V)) (hb : (rows.length : Int) * 8 ≤ 140737488355328) : DC Tryz.prog slices_Clone_Lint_int.id [.view 1 rows] [] (fun r H => (rows = [] ∧ ((r = .a (.slice none 0 0) ∧ H = []) ∨ (r = .nul 1 ∧ H = [.res, .res]))) ∨ (rows ≠ [] ∧ r = .own 1 1 0 rows.length rows.length ∧ H = [.res, .mem false [] rows])) := by
  by_cases hr : rows = []
  · subst hr
    refine DC.view_nil ?_ fun ad c => ?_
    · refine DC.of slices_Clone_Lint_int.ok (by simp) ?_
      simp -dsimp [slices_Clone_Lint_int.ir, slices_Clone_Lint_int.rs]
    · refine DC.of slices_Clone_Lint_int.ok (by simp) ?_
      simp -dsimp [slices_Clone_Lint_int.ir, slices_Clone_Lint_int.rs]
  · refine DC.of slices_Clone_Lint_int.ok (by simp) ?_
    have hl : ¬ (rows.length : Int) = 0 := by
      have := List.length_pos_iff.2 hr
      omega
    simp -dsimp [slices_Clone_Lint_int.ir, slices_Clone_Lint_int.rs, hr, hl, hb]
theorem clone_int_pf (rows : List (List V)) (hb : (rows.length : Int) * 8 ≤ 140737488355328) : Pf Tryz.prog slices_Clone_Lint_int.id [.view 1 rows] (.view 1 rows) := by
  refine DP.weak (Q := fun x => x.sub (.view 1 rows)) (DC.mono (clone_int rows hb) fun r H h => ?_) fun x hx => ⟨_, hx, fun H => ⟨trivial, rfl⟩, rfl⟩
  rcases h with ⟨rfl, ⟨rfl, rfl⟩ | ⟨rfl, rfl⟩⟩ | ⟨h, rfl, rfl⟩
  · exact ⟨trivial, V.sub.nil _⟩
  · exact ⟨trivial, V.sub.nul _ _⟩
  · refine ⟨by simp, ?_⟩
    simp
    exact V.sub.refl _
end Go.Abs.G

/- A state in short; loops that count. -/
namespace Go.Abs
set_option linter.unusedVariables false

/-- What slots hold. -/
def Sls : List (Nat × V) → St → Prop
  | [], _ => True
  | [p], s => gt s.sl p.1 = p.2
  | p :: q :: l, s => gt s.sl p.1 = p.2 ∧ Sls (q :: l) s
/-- A state: its heap, and what slots hold. -/
def At (l : List (Nat × V)) (H : Heap) (s : St) : Prop := s.hp = H ∧ Sls l s

@[simp] theorem sls_nil (s : St) : Sls [] s = True := rfl
@[simp] theorem sls_one (p : Nat × V) (s : St) : Sls [p] s = (gt s.sl p.1 = p.2) := rfl
@[simp] theorem sls_cons (p q : Nat × V) (l : List (Nat × V)) (s : St) : Sls (p :: q :: l) s = (gt s.sl p.1 = p.2 ∧ Sls (q :: l) s) := rfl

theorem least {p : Nat → Prop} (h : ∃ n, p n) : ∃ n, p n ∧ ∀ k, p k → n ≤ k := by
  obtain ⟨n, hn⟩ := h
  induction n using Nat.strongRecOn with
  | ind n ih =>
    by_cases h : ∃ k, k < n ∧ p k
    · obtain ⟨k, hk, hp⟩ := h; exact ih k hk hp
    · exact ⟨n, hn, fun k hk => by
        by_cases hkn : n ≤ k
        · exact hkn
        · exact (h ⟨k, by omega, hk⟩).elim⟩

/-- A loop that counts to n, by what holds behind i rounds. -/
theorem WI.upto {P : Program} {c : C} {Q : Ex → St → Prop} {st : St} (m : Nat) (hm : st.hp.length ≤ m) (n : Nat) (I : Nat → St → Prop) (h0 : I 0 st)
    (hr : ∀ i s, i ≤ n → I i s → vc P c (fun e s' => match e with | .norm => i < n ∧ I (i + 1) (s'.trim m) | .exit k => Q (.exit k) s' | .ret => Q .ret s') s) : WI P (.loop c) Q st := by
  classical
  let μ : St → Nat := fun s => if h : ∃ k, k ≤ n ∧ I (n - k) s then Classical.choose (least h) else 0
  refine WI.loop m hm (fun s => ∃ i, i ≤ n ∧ I i s) μ ⟨0, Nat.zero_le _, h0⟩ ?_
  rintro s ⟨i, hi, hI⟩
  have hx : ∃ k, k ≤ n ∧ I (n - k) s := ⟨n - i, by omega, by rw [show n - (n - i) = i from by omega]; exact hI⟩
  obtain ⟨⟨k1, k2⟩, k3⟩ := Classical.choose_spec (least hx)
  have hμ : μ s = Classical.choose (least hx) := dif_pos hx
  rw [hμ]
  generalize Classical.choose (least hx) = k at *
  refine vc_mono (fun e s' he => ?_) (hr (n - k) s (by omega) k2)
  cases e with
  | norm =>
    obtain ⟨e1, e2⟩ := he
    refine ⟨⟨_, by omega, e2⟩, ?_⟩
    have hy : ∃ q, q ≤ n ∧ I (n - q) (s'.trim m) := ⟨k - 1, by omega, by rw [show n - (k - 1) = n - k + 1 from by omega]; exact e2⟩
    have hμ' : μ (s'.trim m) = Classical.choose (least hy) := dif_pos hy
    rw [hμ']
    have := (Classical.choose_spec (least hy)).2 (k - 1) ⟨by omega, by rw [show n - (k - 1) = n - k + 1 from by omega]; exact e2⟩
    omega
  | exit j => exact he
  | ret => exact he

/-- The same, of what comes behind. -/
theorem vc_upto {P : Program} {c : C} {Q : Ex → St → Prop} {st : St} (m : Nat) (hm : st.hp.length ≤ m) (n : Nat) (I : Nat → St → Prop) (h0 : I 0 st)
    (hr : ∀ i s, i ≤ n → I i s → vc P c (fun e s' => match e with | .norm => i < n ∧ I (i + 1) (s'.trim m) | .exit k => Q (.exit k) s' | .ret => Q .ret s') s) : vc P (.loop c) Q st := WI.upto m hm n I h0 hr

/-- A contract that gives just this, over just this. -/
theorem DC.to {P : Program} {f : FuncId} {xs : List V} {H : Heap} {r : V} {H' : Heap} {Q : V → Heap → Prop} (h : DC P f xs H fun x K => x = r ∧ K = H') (hq : Q r H') : DC P f xs H Q :=
  DC.mono h fun x K ⟨a, b⟩ => by rw [a, b]; exact hq

/-! What each operation asks, but for calls. -/
section
variable {P : Program} {k : St → Prop} {st : St} {d : Option Nat} {x y v n m key : Operand} {l : L} {t es r len bytes : Nat} {ts ap : List Nat} {zero : List V} {parts : List (Nat × Operand)} {kd : IntKind}
@[simp] theorem vc_lt : I.vc P (.lt d l) k st = (l.pre st ∧ k (st.put d (l.val st))) := rfl
@[simp] theorem vc_frz : I.vc P (.frz t) k st = (if (gt st.sl t).ids = [] then k st else (gt st.sl t).fzP st.hp ∧ k { st with sl := up st.sl t ((gt st.sl t).fz st.hp), hp := st.hp.fz (gt st.sl t).ids }) := rfl
@[simp] theorem vc_nilv : I.vc P (.nilv t es) k st = k { st with sl := up st.sl t (if (gt st.sl t).nilSl then .view es [] else gt st.sl t) } := rfl
@[simp] theorem vc_keep : I.vc P (.keep ts) k st = k { st with sl := keepS st.sl ts } := rfl
@[simp] theorem vc_wk : I.vc P .wk k st = (∃ st', Weak st st' ∧ k st') := rfl
@[simp] theorem vc_alloc : I.vc P (.alloc d r len zero) k st = (st.hp[st.bs + r]? = some .res ∧ zero.length = len ∧ k ({ st with hp := st.hp.set (st.bs + r) (.mem false [] [zero]) }.put d (.ptr (st.bs + r) 1 0 0))) := rfl
@[simp] theorem vc_box : I.vc P (.box d r len x) k st = (st.hp[st.bs + r]? = some .res ∧ (st.ev x).sized st.hp len ∧
      k ({ st with hp := st.hp.set (st.bs + r) (.mem false (V.idsL (st.ev x).cells) [(st.ev x).cells]) }.put d (.ptr (st.bs + r) 1 0 0))) := rfl
@[simp] theorem vc_bsl : I.vc P (.bsl d r es len zero parts) k st = (st.hp[st.bs + r]? = some .res ∧ zero.length = es ∧ (∀ p ∈ parts, (st.ev p.2).sized st.hp es ∧ p.1 < len) ∧
      k ({ st with hp := st.hp.set (st.bs + r) (.mem false (V.idsL (fillV (List.flatten (List.replicate len zero)) (parts.map fun (p : Nat × Operand) => (p.1 * es, es, st.ev p.2)))) (chunk es len (fillV (List.flatten (List.replicate len zero)) (parts.map fun (p : Nat × Operand) => (p.1 * es, es, st.ev p.2))))) }.put d (.own (st.bs + r) es 0 len len))) := rfl
@[simp] theorem vc_bsv : I.vc P (.bsv d es len zero parts) k st = (zero.length = es ∧ (∀ p ∈ parts, V.idsL (st.ev p.2).cells = [] ∧ (st.ev p.2).sized st.hp es ∧ p.1 < len) ∧
      k (st.put d (I.bsvV es len zero (parts.map fun (p : Nat × Operand) => (p.1 * es, es, st.ev p.2))))) := rfl
@[simp] theorem vc_mkm : I.vc P (.mkm d r) k st = (st.hp[st.bs + r]? = some .res ∧ k ({ st with hp := st.hp.set (st.bs + r) (.map false [] []) }.put d (.mp (st.bs + r)))) := rfl
@[simp] theorem vc_mks : I.vc P (.mks d r es bytes zero n) k st = (st.hp[st.bs + r]? = some .res ∧ zero.length = es ∧ (∃ m, st.ev n = .a (.int .i64 m)) ∧ 0 ≤ (st.ev n).num ∧ (st.ev n).num * bytes ≤ 140737488355328 ∧
      k ({ st with hp := st.hp.set (st.bs + r) (.mem false [] (List.replicate (st.ev n).num.toNat zero)) }.put d (.own (st.bs + r) es 0 (st.ev n).num.toNat (st.ev n).num.toNat))) := rfl
@[simp] theorem vc_pan : I.vc P .pan k st = False := rfl
@[simp] theorem vc_store : I.vc P (.store ap len x v) k st = (match st.ev x with
    | .ptr id tot i j => match st.hp.getD id .dead with
      | .mem false refs rows => (∀ t ∈ ap, (gt st.sl t).oid ≠ some id) ∧ rows.length = tot ∧ i < tot ∧ j + len ≤ (rows.getD i []).length ∧ (st.ev v).sized st.hp len ∧
          k { st with hp := st.hp.set id (.mem false (addRefs refs (V.idsL (st.ev v).cells)) (rows.set i (rowSet (rows.getD i []) j (st.ev v).cells))) }
      | _ => False
    | _ => False) := rfl
@[simp] theorem vc_app : I.vc P (.app ap d r es bytes x y) k st = (match st.ev x with
    | .own id es' off len tot => match st.hp.getD id .dead with
      | .mem false refs rows => (∀ t ∈ ap, (gt st.sl t).oid ≠ some id) ∧ es' = es ∧ rows.length = tot ∧ off + len = tot ∧ okSl st.hp (st.ev y) ∧ (st.ev y).slEs es ∧ ((len : Int) + (st.ev y).slLen) * bytes ≤ 140737488355328 ∧
          k ({ st with hp := st.hp.set id (.mem false (addRefs refs ((st.ev y).rowIds st.hp)) (rows ++ (st.ev y).rowsOf st.hp)) }.put d (.own id es off (len + ((st.ev y).rowsOf st.hp).length) (tot + ((st.ev y).rowsOf st.hp).length)))
      | _ => False
    | .a (.slice none 0 0) => st.hp[st.bs + r]? = some .res ∧ okSl st.hp (st.ev y) ∧ (st.ev y).slEs es ∧ (st.ev y).slLen * bytes ≤ 140737488355328 ∧
          k ({ st with hp := st.hp.set (st.bs + r) (.mem false ((st.ev y).rowIds st.hp) ((st.ev y).rowsOf st.hp)) }.put d (.own (st.bs + r) es 0 ((st.ev y).rowsOf st.hp).length ((st.ev y).rowsOf st.hp).length))
    | .nul es' => es' = es ∧ st.hp[st.bs + r]? = some .res ∧ okSl st.hp (st.ev y) ∧ (st.ev y).slEs es ∧ (st.ev y).slLen * bytes ≤ 140737488355328 ∧
          (if ((st.ev y).rowsOf st.hp).isEmpty = true then k (st.put d (.nul es)) else
            k ({ st with hp := st.hp.set (st.bs + r) (.mem false ((st.ev y).rowIds st.hp) ((st.ev y).rowsOf st.hp)) }.put d (.own (st.bs + r) es 0 ((st.ev y).rowsOf st.hp).length ((st.ev y).rowsOf st.hp).length)))
    | _ => False) := rfl
@[simp] theorem vc_cpy : I.vc P (.cpy d es x y) k st = (match st.ev x with
    | .own id es' off len tot => match st.hp.getD id .dead with
      | .mem false refs rows => es' = es ∧ rows.length = tot ∧ off + len ≤ tot ∧ okSl st.hp (st.ev y) ∧ (st.ev y).slEs es ∧ (st.ev y).slLen ≤ len ∧
          k ({ st with hp := st.hp.set id (.mem false (addRefs refs ((st.ev y).rowIds st.hp)) (rows.take off ++ (st.ev y).rowsOf st.hp ++ rows.drop (off + ((st.ev y).rowsOf st.hp).length))) }.put d (.a (.int .i64 (st.ev y).slLen)))
      | _ => False
    | _ => False) := rfl
@[simp] theorem vc_mup : I.vc P (.mup ap kd m key v) k st = (match st.ev m with
    | .mp id => match st.hp.getD id .dead with
      | .map false refs es => (∀ t ∈ ap, (gt st.sl t).oid ≠ some id) ∧ (∀ e ∈ es, e.1.isKey kd = true) ∧ (st.ev key).isKey kd = true ∧
          k { st with hp := st.hp.set id (.map false (addRefs refs (V.idsL [st.ev v])) (putE es (st.ev key) (st.ev v))) }
      | _ => False
    | _ => False) := rfl

/-! Calls. -/
variable {f : FuncId} {xs : List Operand}
theorem call_go {r0 : V} {zs : List V} (hc : Pf P f zs r0) (ha : xs.map st.ev = zs) (hi : V.idsL zs = []) (hk : k (st.put d r0)) : I.vc P (.call d f xs) k st := by
  subst ha; exact ⟨hi, hc.use hk⟩
theorem callo_gen {zs : List V} {Q : V → Heap → Prop} (hc : DC P f zs [] Q) (ha : xs.map st.ev = zs) (hi : V.idsL zs = []) (hf : okFunc P f = true)
    (hk : ∀ r H', Q r H' → k ({ st with hp := st.hp ++ H'.map (O.ren (st.hp.length + ·)) }.put d (r.ren (st.hp.length + ·)))) : I.vc P (.callo d (.func f) xs) k st := by
  rw [callo_fn]; subst ha; exact ⟨hf, hi, hc.mono hk⟩
theorem callo_go {zs : List V} {r0 : V} {H0 : Heap} (hc : DC P f zs [] fun r H => r = r0 ∧ H = H0) (ha : xs.map st.ev = zs) (hi : V.idsL zs = []) (hf : okFunc P f = true)
    (hk : k ({ st with hp := st.hp ++ H0.map (O.ren (st.hp.length + ·)) }.put d (r0.ren (st.hp.length + ·)))) : I.vc P (.callo d (.func f) xs) k st :=
  callo_gen hc ha hi hf fun r H ⟨a, b⟩ => by subst a b; exact hk
theorem callm_gen {zs : List V} {H0 : Heap} {Q : V → Heap → Prop} (hc : DC P f zs H0 Q) (sel : List Nat) (hs : clos st.hp 8 (addAll [] (V.idsL (xs.map st.ev))) = sel) (hok : OkSel st.hp sel) (ha : V.renL (idx sel) (xs.map st.ev) = zs) (hH : sub st.hp sel = H0)
    (hf : okFunc P f = true) (hk : ∀ r H', Q r H' → k ({ st with hp := merge st.hp sel H' }.put d (r.ren (back sel st.hp.length)))) : I.vc P (.callm d (.func f) xs) k st := by
  rw [callm_fn]; subst hs ha hH; exact ⟨hf, hok, hc.mono hk⟩
theorem callm_go {zs : List V} {H0 : Heap} {r0 : V} {H1 : Heap} (hc : DC P f zs H0 fun r H => r = r0 ∧ H = H1) (sel : List Nat) (hs : clos st.hp 8 (addAll [] (V.idsL (xs.map st.ev))) = sel) (hok : OkSel st.hp sel) (ha : V.renL (idx sel) (xs.map st.ev) = zs) (hH : sub st.hp sel = H0)
    (hf : okFunc P f = true) (hk : k ({ st with hp := merge st.hp sel H1 }.put d (r0.ren (back sel st.hp.length)))) : I.vc P (.callm d (.func f) xs) k st :=
  callm_gen hc sel hs hok ha hH hf fun r H ⟨a, b⟩ => by subst a b; exact hk
theorem calla_gen {zs : List V} {H0 : Heap} {Q : V → Heap → Prop} (hc : DC P f zs H0 Q) (sel : List Nat) (hs : clos st.hp 8 (addAll [] (V.idsL (xs.map st.ev))) = sel) (hok : OkSel st.hp sel) (hap : ∀ t ∈ ap, ∀ k, (gt st.sl t).oid = some k → k ∉ sel)
    (ha : V.renL (idx sel) (xs.map st.ev) = zs) (hH : sub st.hp sel = H0) (hf : okFunc P f = true) (hk : ∀ r H', Q r H' → k ({ st with hp := merge st.hp sel H' }.put d (r.ren (back sel st.hp.length)))) : I.vc P (.calla ap d (.func f) xs) k st := by
  rw [calla_fn]; subst hs ha hH; exact ⟨hf, hok, hap, hc.mono hk⟩
theorem calla_go {zs : List V} {H0 : Heap} {r0 : V} {H1 : Heap} (hc : DC P f zs H0 fun r H => r = r0 ∧ H = H1) (sel : List Nat) (hs : clos st.hp 8 (addAll [] (V.idsL (xs.map st.ev))) = sel) (hok : OkSel st.hp sel) (hap : ∀ t ∈ ap, ∀ k, (gt st.sl t).oid = some k → k ∉ sel)
    (ha : V.renL (idx sel) (xs.map st.ev) = zs) (hH : sub st.hp sel = H0) (hf : okFunc P f = true) (hk : k ({ st with hp := merge st.hp sel H1 }.put d (r0.ren (back sel st.hp.length)))) : I.vc P (.calla ap d (.func f) xs) k st :=
  calla_gen hc sel hs hok hap ha hH hf fun r H ⟨a, b⟩ => by subst a b; exact hk
end

/-- An object that names no other. -/
structure O.clo (o : O) : Prop where
  refs : o.refs = []
  ren : ∀ f, o.ren f = o
  nres : o ≠ .res
theorem clos_one {H : Heap} {k : Nat} {o : O} (h : H[k]? = some o) (c : o.clo) : clos H 8 [k] = [k] :=
  clos_stop H 8 [k] fun i hi q hq => by
    simp only [List.mem_singleton] at hi; subst hi
    rw [getD_some h, c.refs] at hq; cases hq
theorem okSel_one {H : Heap} {k : Nat} {o : O} (h : H[k]? = some o) (c : o.clo) : OkSel H [k] := by
  refine ⟨by simp, fun i hi => ?_, fun i hi => ?_, fun i hi q hq => ?_⟩ <;> (simp only [List.mem_singleton] at hi; subst hi)
  · exact lt_of_get h
  · rw [getD_some h]; exact c.nres
  · rw [getD_some h, c.refs] at hq; cases hq
theorem sub_one {H : Heap} {k : Nat} {o : O} (h : H[k]? = some o) (c : o.clo) : sub H [k] = [o] := by
  simp only [sub, List.map_cons, List.map_nil, getD_some h, c.ren]
theorem merge_one {H H1 : Heap} {k : Nat} {o o' : O} (h : H[k]? = some o) (c : o'.clo) (h1 : ∀ p ∈ H1, p.clo) : merge H [k] (o' :: H1) = H.set k o' ++ H1 := by
  have : H1.map (O.ren (back [k] H.length)) = H1 := (List.map_congr_left fun p hp => (h1 p hp).ren _).trans (List.map_id _)
  simp only [merge, place, List.length_cons, List.length_nil, Nat.zero_add, List.take_succ_cons, List.take_zero, List.map_cons, List.map_nil, c.ren, List.drop_succ_cons, List.drop_zero, this]
theorem set_same {H : Heap} {k : Nat} {o : O} (h : H[k]? = some o) : H.set k o = H := by
  obtain ⟨hl, he⟩ := List.getElem?_eq_some_iff.1 h
  rw [← he]; exact List.set_getElem_self hl
section
variable {P : Program} {k : St → Prop} {st : St} {d : Option Nat} {ap : List Nat} {f : FuncId} {xs : List Operand}
/-- A call that is handed one object by itself. -/
theorem callm_one {zs : List V} {r0 : V} {o o' : O} {H1 : Heap} (hc : DC P f zs [o] fun r H => r = r0 ∧ H = o' :: H1) (p : Nat) (hi : addAll [] (V.idsL (xs.map st.ev)) = [p]) (hp : st.hp[p]? = some o) (c : o.clo) (c' : o'.clo) (c1 : ∀ q ∈ H1, q.clo)
    (ha : V.renL (idx [p]) (xs.map st.ev) = zs) (hf : okFunc P f = true) (hk : k ({ st with hp := st.hp.set p o' ++ H1 }.put d (r0.ren (back [p] st.hp.length)))) : I.vc P (.callm d (.func f) xs) k st :=
  callm_go hc [p] (by rw [hi, clos_one hp c]) (okSel_one hp c) ha (sub_one hp c) hf (by rw [merge_one hp c' c1]; exact hk)
theorem calla_one {zs : List V} {r0 : V} {o o' : O} {H1 : Heap} (hc : DC P f zs [o] fun r H => r = r0 ∧ H = o' :: H1) (p : Nat) (hi : addAll [] (V.idsL (xs.map st.ev)) = [p]) (hp : st.hp[p]? = some o) (c : o.clo) (c' : o'.clo) (c1 : ∀ q ∈ H1, q.clo)
    (hap : ∀ t ∈ ap, (gt st.sl t).oid ≠ some p) (ha : V.renL (idx [p]) (xs.map st.ev) = zs) (hf : okFunc P f = true) (hk : k ({ st with hp := st.hp.set p o' ++ H1 }.put d (r0.ren (back [p] st.hp.length)))) : I.vc P (.calla ap d (.func f) xs) k st :=
  calla_go hc [p] (by rw [hi, clos_one hp c]) (okSel_one hp c) (fun t ht q hq => by simp only [List.mem_singleton]; rintro rfl; exact hap t ht hq) ha (sub_one hp c) hf (by rw [merge_one hp c' c1]; exact hk)
end
end Go.Abs

/- Contracts: of what a call leaves, the objects that its caller wants, numbered anew. -/
namespace Go.Abs
set_option linter.unusedVariables false

theorem HOK.less {hp : Array Obj} {H : Heap} {β : Nat → Hd} {F F' : Nat → Prop} (hk : HOK hp H β F) (h : ∀ b, F' b → F b) : HOK hp H β F' ∧ (cx hp H β F).le (cx hp H β F') := by
  have hle : (cx hp H β F).le (cx hp H β F') := ⟨Nat.le_refl _, fun b hb hn => ⟨rfl, fun e => hn (e.imp id (h b))⟩, fun _ h => h, fun _ _ _ e => .inl e⟩
  exact ⟨⟨fun i o ho => (hk.ro i o ho).mono hle rfl (fun hn e => hn (e.imp (fun x => x) (h _))) fun _ _ _ _ _ _ => rfl, hk.one, fun b hb => hk.far b (h b hb)⟩, hle⟩

theorem DC.pick {P : Program} {f : FuncId} {xs : List V} {H : Heap} {Q Q' : V → Heap → Prop} (h : DC P f xs H Q)
    (hq : ∀ x H', Q x H' → ∃ sel, OkSel H' sel ∧ (∀ i, i < H.length → sel[i]? = some i) ∧ (∀ i ∈ x.ids, i ∈ sel) ∧ Q' (x.ren (idx sel)) (Abs.sub H' sel)) : DC P f xs H Q' := fun w β F vs hk hr =>
  (h w β F vs hk hr).mono fun e w' ⟨r, x, H', β2, h1, h2, h3, h4⟩ => by
    obtain ⟨sel, ok, hn, hx, hQ⟩ := hq x H' h4
    obtain ⟨k1, k2⟩ := (sub_ok h2.hok ok).less (F' := F) fun b hb => .inl hb
    have hsub : ∀ id, id < H.length → (Abs.sub H' sel)[id]? = (H'[id]?).map (O.ren (idx sel)) ∧ βsub β2 sel id = β2 id := fun id hid => by
      obtain ⟨h5, h6⟩ := List.getElem?_eq_some_iff.1 (hn id hid)
      have h7 : sel.getD id 0 = id := by simp [List.getD, hn id hid]
      exact ⟨by rw [sub_get ok h5, h7], by unfold βsub; rw [h7]⟩
    refine ⟨r, _, _, βsub β2 sel, h1, ⟨k1, ⟨h2.le.size, fun b hb hno => ⟨(h2.le.same b hb hno).1, fun e => (h2.le.same b hb hno).2 ?_⟩, fun id hl => ?_, fun id g' hl e => ?_⟩, h2.ext⟩, ?_, hQ⟩
    · rcases e with ⟨j, e⟩ | e
      · exact .inl ⟨_, (owns_sub ok e).2⟩
      · exact .inr e
    · have hlt : id < H.length := by obtain ⟨o, e, _⟩ := hl; exact lt_of_get e
      exact (liveIn_ren (hsub id hlt).1).2 (h2.le.live id hl)
    · have hlt : id < H.length := by obtain ⟨o, e, _⟩ := hl; exact lt_of_get e
      refine h2.le.hd id g' hl ?_
      have e' : hdOf (Abs.sub H' sel) (βsub β2 sel) id = some g' := e
      rw [hdOf_ren (hsub id hlt).1 (hsub id hlt).2] at e'
      exact e'
    · have h5 := (h3.onlyOf x.ids fun i hi => hi).ren (ren_sub (w := w') (F := F) ok hx)
      exact h5.up.mono k2

/-- The same, for results that are just this, over just this. -/
theorem DC.picks {P : Program} {f : FuncId} {xs : List V} {H : Heap} {Q : V → Heap → Prop} {r : V} {K : Heap} (h : DC P f xs H Q)
    (hq : ∀ x H', Q x H' → ∃ sel, OkSel H' sel ∧ (∀ i, i < H.length → sel[i]? = some i) ∧ (∀ i ∈ x.ids, i ∈ sel) ∧ x.ren (idx sel) = r ∧ Abs.sub H' sel = K) : DC P f xs H fun x H' => x = r ∧ H' = K :=
  h.pick fun x H' hQ => by obtain ⟨sel, a, b, c, d, e⟩ := hq x H' hQ; exact ⟨sel, a, b, c, d, e⟩

/-- A slice without elements, as one of its own. -/
theorem DC.ownnil {P : Program} {f : FuncId} {xs : List V} {H : Heap} {Q Q' : V → Heap → Prop} (h : DC P f xs H Q)
    (hq : ∀ x H', Q x H' → Q' x H' ∨ ∃ es, (x = .a (.slice none 0 0) ∨ ∃ es', x = .nul es') ∧ Q' (.own H'.length es 0 0 0) (H' ++ [.mem false [] []])) : DC P f xs H Q' := fun w β F vs hk hr =>
  (h w β F vs hk hr).mono fun e w' ⟨r, x, H', β2, h1, h2, h3, h4⟩ => by
    rcases hq x H' h4 with hQ | ⟨es, hx, hQ⟩
    · exact ⟨r, x, H', β2, h1, h2, h3, hQ⟩
    · obtain ⟨ad, rfl⟩ : ∃ ad, r = .slice ad 0 0 := by
        rcases hx with rfl | ⟨es', rfl⟩
        · exact ⟨none, h3.of_a⟩
        · cases h3 with
          | nul => exact ⟨_, rfl⟩
      have a1 := adv_res (F := F) h2.hok 1
      have hg : (H' ++ List.replicate 1 O.res)[H'.length]? = some O.res := by simp
      have a2 := new_nil (es := es) (refs := []) (F := F) a1.hok hg
      have e : (H' ++ List.replicate 1 O.res).set H'.length (.mem false [] []) = H' ++ [.mem false [] []] := by
        rw [List.set_append, if_neg (by omega), Nat.sub_self]; rfl
      have a3 := nil_own (es := es) (refs := []) (ad := ad) (hp := w'.heap) (F := F) (β := β2) hg
      rw [e] at a2 a3
      exact ⟨_, _, _, _, h1, h2.trans (a1.trans a2), a3, hQ⟩

/-- An argument that is a slice of one's own without elements, by what it may be. -/
theorem DC.own0 {P : Program} {f : FuncId} {es : Nat} {ys : List V} {H : Heap} {Q : V → Heap → Prop} {id : Nat} {refs : List Nat} (hid : H[id]? = some (.mem false refs []))
    (h : ∀ ad c, (ad = none → c = 0) → DC P f (.a (.slice ad 0 c) :: ys) H Q) : DC P f (.own id es 0 0 0 :: ys) H Q := by
  intro w β F vs hk hr
  have hlt : 0 < vs.size := by have := hr.1; simp at this; omega
  have hv := hr.2 0 vs[0] (.own id es 0 0 0) (by simp [hlt]) rfl
  have hd : hdOf H β id = some ((β id).wt 0) := by unfold hdOf; rw [hid]; rfl
  have key : ∃ ad c, (ad = none → c = 0) ∧ vs[0] = .slice ad 0 c := by
    generalize vs[0] = v at hv
    cases hv with
    | own hl hh =>
      obtain ⟨_, g⟩ := hh _ hd
      obtain ⟨_, _, g⟩ := g rfl
      rcases g with ⟨_, ⟨ad, rfl⟩, _⟩ | ⟨_, ad, rfl, _⟩
      · exact ⟨ad, 0, fun _ => rfl, rfl⟩
      · exact ⟨some ad, _, (fun e => by cases e), rfl⟩
  obtain ⟨ad, c, h1, h2⟩ := key
  refine h ad c h1 w β F vs hk ⟨by simpa using hr.1, fun i v x hv' hx => ?_⟩
  cases i with
  | zero =>
    rw [Array.getElem?_eq_getElem hlt] at hv'
    injection hv' with hv'
    injection hx with hx
    subst hx
    rw [← hv', h2]; exact .a
  | succ i => exact hr.2 (i + 1) v x hv' (by simpa using hx)
end Go.Abs

/- Many objects at once. -/
namespace Go.Abs
set_option linter.unusedVariables false
section
variable {w : World} {β : Nat → Hd} {F : Nat → Prop} {H : Heap}
theorem adv_toTreeE {id : Nat} {refs : List Nat} {rows : List (List V)} (hk : HOK w.heap H β F) (hid : H[id]? = some (.mem false refs rows)) (hlo : (β id).lo = 0) : Adv F w H β w (H.set id (.tree refs (flatC rows))) (upd β id ((β id).ws noSub)) := by
  refine turn_at (S := noSub) hk hid (by simp) (fun b hb => ?_) (fun g' hg => ?_) fun hle => ?_
  · unfold ownsB at hb ⊢
    rw [get_set hid, upd_same] at hb
    rw [hid]
    obtain ⟨h1, h2 | h2⟩ := hb
    · exact ⟨h1, h2⟩
    · exact h2.elim
  · unfold hdOf at hg ⊢
    rw [get_set hid, upd_same] at hg
    rw [hid]
    simp only [flatC_length] at hg ⊢
    exact hg
  · rcases hk.ro id _ hid with hr | ⟨q1, q2, q3, q4, q5, cs, E, fr, q6, q7, q8, q9⟩
    · exact .inl ⟨hr.1, by rw [hr.2.1]; rfl, hr.2.2⟩
    · obtain rfl := q7 rfl
      refine .inr ⟨q1, hlo, fun h => h, ?_, fun cs' E' fr' e => ?_⟩
      rotate_left
      · have e2 : w.heap[(β id).b]? = some (.cells cs' E' fr') := e
        have q6' : w.heap[(β id).b]? = some (.cells cs E (0, 0)) := q6
        rw [q6'] at e2
        cases e2
        exact q8
      have key : ∀ (i : Nat) (row : List Ce), (flatC rows)[i]? = some row → ∀ (j : Nat) (x : Ce), row[j]? = some x → ∃ y v, x = .v y ∧ cs[(β id).o + i * (β id).es + j]? = some v ∧ v.oneCell' = true ∧ RV ((cx w.heap H β F).only refs) v y := by
        intro i row hi j x hj
        obtain ⟨r, hr, rfl⟩ := flatC_get hi
        rw [List.getElem?_map, Option.map_eq_some_iff] at hj
        obtain ⟨y, hj, rfl⟩ := hj
        obtain ⟨v, e1, e2, e3⟩ := q9 i r hr (by omega) j y hj
        rw [hlo, Nat.sub_zero] at e1
        exact ⟨y, v, rfl, e1, e2, e3⟩
      have := TR.n (c := cx w.heap (H.set id (.tree refs (flatC rows))) (upd β id ((β id).ws noSub)) F) (refs := refs) (S := fun b => (β id).b = b ∨ noSub b) (ad := ⟨(β id).b, (β id).o, none⟩) (b := (β id).b) (o := (β id).o) (cap := (β id).cap) (es := (β id).es) (rows := flatC rows)
        (fun _ => rfl) cs E (fun i j => (cs[(β id).o + i * (β id).es + j]?).getD undef) (fun _ _ => noSub) q6 (by rw [flatC_length]; omega) q8 (fun i row hi => by
          obtain ⟨r, hr, rfl⟩ := flatC_get hi
          rw [List.length_map]; exact q4 i r hr) (fun i row hi j x hj => by
          obtain ⟨y, v, _, e1, _⟩ := key i row hi j x hj
          rw [e1]; rfl) (fun i row hi j x hj => by
          obtain ⟨y, v, rfl, e1, e2, e3⟩ := key i row hi j x hj
          rw [e1]; exact .v e2 (e3.mono (hle.only _))) (fun i j k h => h.elim) (fun k => ⟨fun h => h.elim (fun e => .inl e.symm) fun e => e.elim, fun h => h.elim (fun e => .inl e.symm) fun ⟨_, _, e⟩ => e.elim⟩) (fun i j h => h) fun i j i' j' k h => h.elim
      exact this

end
theorem upd_ne' {β : Nat → Hd} {i j : Nat} {h : Hd} (hne : j ≠ i) : upd β i h j = β j := by unfold upd; rw [if_neg hne]

/-- Rows of slices that own nothing further, each told as an object of trees. -/
theorem adv_treeAll {w : World} {F : Nat → Prop} : ∀ (todo : List (Nat × List (List V))) (H : Heap) (β : Nat → Hd), HOK w.heap H β F → (∀ c ∈ todo, H[c.1]? = some (.mem false [] c.2) ∧ (β c.1).lo = 0) → (todo.map (·.1)).Nodup →
    ∃ β' H', Adv F w H β w H' β' ∧ (∀ c ∈ todo, H'[c.1]? = some (.tree [] (flatC c.2))) ∧ H'.length = H.length ∧ ∀ j, j ∉ todo.map (·.1) → H'[j]? = H[j]?
  | [], H, β, hk, _, _ => ⟨β, H, ⟨hk, .refl _, .refl _ _⟩, by simp, rfl, fun _ _ => rfl⟩
  | c :: l, H, β, hk, hc, hnd => by
    obtain ⟨h1, h2⟩ := hc c (by simp)
    have a1 := adv_toTreeE hk h1 h2
    obtain ⟨n1, n2⟩ : c.1 ∉ l.map (·.1) ∧ (l.map (·.1)).Nodup := by simpa using List.nodup_cons.1 hnd
    obtain ⟨β', H', a2, k1, k2, k3⟩ := adv_treeAll l _ _ a1.hok (fun d hd => by
      have hne : d.1 ≠ c.1 := fun e => n1 (e ▸ List.mem_map_of_mem hd)
      obtain ⟨g1, g2⟩ := hc d (by simp [hd])
      exact ⟨by rw [getElem?_set_ne' hne]; exact g1, by rw [upd_ne' hne]; exact g2⟩) n2
    refine ⟨β', H', a1.trans a2, fun d hd => ?_, by rw [k2, List.length_set], fun j hj => ?_⟩
    · rcases List.mem_cons.1 hd with rfl | hd
      · rw [k3 _ n1]; exact get_set h1
      · exact k1 d hd
    · rw [List.map_cons, List.mem_cons, not_or] at hj
      rw [k3 j hj.2, getElem?_set_ne' hj.1]
end Go.Abs

/- A struct whose second cell is a nil slice, as one that owns a slice there. -/
namespace Go.Abs
set_option linter.unusedVariables false

section
variable {w : World} {β : Nat → Hd} {F : Nat → Prop} {H : Heap}
theorem adv_nil2m {id e1 e2 : Nat} (hk : HOK w.heap H β F) (hid : H[id]? = some (.mem false [] [[nilS, nilS]])) (hlo : (β id).lo = 0) :
    ∃ β', Adv F w H β w (H.set id (.mem false [H.length, H.length + 1] [[.own H.length e1 0 0 0, .own (H.length + 1) e2 0 0 0]]) ++ [.mem false [] [], .mem false [] []]) β' := by
  obtain ⟨β1, a1⟩ := adv_nil2 (e1 := e1) (e2 := e2) hk hid hlo
  generalize hP : O.mem false [H.length, H.length + 1] [[.own H.length e1 0 0 0, .own (H.length + 1) e2 0 0 0]] = P at a1 ⊢
  have g : (H.set id P ++ [O.mem false [] [], .tree [] []])[H.length + 1]? = some (.tree [] (flatC [])) := by
    rw [List.getElem?_append_right (by simp)]; simp [flatC]
  obtain ⟨β2, a2⟩ := adv_toMem a1.hok g
  have e : (H.set id P ++ [O.mem false [] [], .tree [] []]).set (H.length + 1) (.mem false [] []) = H.set id P ++ [O.mem false [] [], .mem false [] []] := by
    rw [List.set_append, if_neg (by simp)]; simp
  rw [e] at a2
  exact ⟨β2, a1.trans a2⟩
end

theorem Weak.nil2m {st : St} {id e1 e2 t : Nat} (hid : st.hp[id]? = some (.mem false [] [[nilS, nilS]])) (ht : gt st.sl t = .ptr id 1 0 0) :
    Weak st { st with hp := st.hp.set id (.mem false [st.hp.length, st.hp.length + 1] [[.own st.hp.length e1 0 0 0, .own (st.hp.length + 1) e2 0 0 0]]) ++ [.mem false [] [], .mem false [] []] } := by
  refine ⟨rfl, fun k hk => ?_, by simp, fun w β F N a hR => ?_⟩
  · show (st.hp.set id _ ++ _)[k]? = _
    have hne : k ≠ id := by rintro rfl; rw [hid] at hk; simp at hk
    rw [List.getElem?_append_left (by rw [List.length_set]; exact lt_of_get hk), getElem?_set_ne' hne]; exact hk
  · have hs := hR.sl t
    rw [ht] at hs
    have hd : (cx w.heap st.hp β F).hd id = some ((β id).wt 1) := by show hdOf st.hp β id = _; unfold hdOf; rw [hid]; rfl
    have hlo : ((β id).wt 1).lo = 0 := lo_of_ptr (h := (β id).wt 1) hs hd rfl
    obtain ⟨β', adv⟩ := adv_nil2m (e1 := e1) (e2 := e2) hR.hok hid hlo
    exact ⟨β', adv, hR.adv adv⟩

end Go.Abs

namespace Go.Abs.G
open Go.Proofs
set_option linter.unusedVariables false
set_option linter.unusedSimpArgs false
attribute [local simp] I.vc

/-- A copy of a slice of domains. -/
theorem cloneD_spec (L : List Dom) (hl : L.length ≤ 64) : DC Tryz.prog slices_Clone_Ldom_domain_dom_domain.id [.own 0 4 0 L.length L.length] [.mem false [] (L.map Dom.row)]
    (fun r H => r = .own 1 4 0 L.length L.length ∧ H = [.mem false [] (L.map Dom.row), .mem false [] (L.map Dom.row)]) := by
  by_cases hL : L = []
  · subst hL
    refine DC.own0 (refs := []) rfl fun ad c hc => ?_
    refine DC.ownnil (Q := fun r H => (r = .a (.slice none 0 0) ∨ r = .nul 4) ∧ H = [.mem false [] []]) ?_ ?_
    · refine DC.pick (Q := fun r H => (r = .a (.slice none 0 0) ∨ r = .nul 4) ∧ ∃ E, H = .mem false [] [] :: E) ?_ ?_
      · refine DC.of slices_Clone_Ldom_domain_dom_domain.ok (by simp) ?_
        cases ad with
        | none =>
          obtain rfl := hc rfl
          simp [slices_Clone_Ldom_domain_dom_domain.ir, slices_Clone_Ldom_domain_dom_domain.rs]
        | some ad => simp [slices_Clone_Ldom_domain_dom_domain.ir, slices_Clone_Ldom_domain_dom_domain.rs]
      · rintro r H ⟨hr, E, rfl⟩
        refine ⟨[0], by simp [O.refs], by simp, by rcases hr with rfl | rfl <;> simp, by rcases hr with rfl | rfl <;> simp, by simp [sub]⟩
    · rintro r H ⟨hr, rfl⟩
      refine .inr ⟨4, hr.imp id fun h => ⟨4, h⟩, rfl, rfl⟩
  · have hp : 0 < L.length := List.length_pos_iff.2 hL
    refine DC.picks (Q := fun r H => r = .own 2 4 0 L.length L.length ∧ ∃ B E, H = .mem false [] (L.map Dom.row) :: B :: .mem false [] (L.map Dom.row) :: E) ?_ ?_
    · refine DC.of slices_Clone_Ldom_domain_dom_domain.ok (by simp) ?_
      simp [slices_Clone_Ldom_domain_dom_domain.ir, slices_Clone_Ldom_domain_dom_domain.rs, hL]
      exact ⟨by omega, List.take_of_length_le (by simp)⟩
    · rintro r H ⟨rfl, B, E, rfl⟩
      exact ⟨[0, 2], by simp [O.refs], by simp, by simp, rfl, by simp [sub]⟩

theorem lo_own {w : World} {β : Nat → Hd} {F : Nat → Prop} {H : Heap} {vs : Array Value} {xs : List V} {i id n es : Nat} (hr : RVs (cx w.heap H β F) vs xs) (hi : xs[i]? = some (.own id es 0 n n)) (hd : hdOf H β id = some ((β id).wt n)) : (β id).lo = 0 := by
  have hlt := lt_of_get hi
  obtain ⟨v, hv⟩ : ∃ v, vs[i]? = some v := ⟨vs[i]'(by rw [hr.1]; exact hlt), Array.getElem?_eq_getElem _⟩
  have h := hr.2 i v _ hv hi
  cases h with
  | own hl hh => exact Nat.le_zero.1 ((hh _ hd).2 rfl).1

/-- The same, of a slice that lies within another. -/
theorem cloneT_spec (L : List Dom) (hl : L.length ≤ 64) : DC Tryz.prog slices_Clone_Ldom_domain_dom_domain.id [.own 0 4 0 L.length L.length] [.tree [] (L.map domCe)]
    (fun r H => r = .own 1 4 0 L.length L.length ∧ H = [.tree [] (L.map domCe), .mem false [] (L.map Dom.row)]) := by
  refine DC.pre (H1 := [.mem false [] (L.map Dom.row)]) (fun w β F vs hk hr => ?_) (DC.post' (cloneD_spec L hl) ?_)
  · exact adv_toMem (id := 0) (refs := []) (rows := L.map Dom.row) hk (by rw [← domCe_flat]; rfl)
  · rintro x H1 ⟨rfl, rfl⟩ w β F vs hk hr
    have l0 := lo_own (i := 1) hr rfl (by simp [hdOf])
    obtain ⟨β1, a1⟩ := adv_toTree (id := 0) hk rfl l0
    refine ⟨β1, _, a1, rfl, ?_⟩
    rw [domCe_flat]; rfl
end Go.Abs.G


namespace Go.Abs.G
open Go.Proofs
set_option linter.unusedVariables false
set_option linter.unusedSimpArgs false

section
variable {s : List Dom} {rf : List Nat} {R : List (List V)} {Es L : Heap} {n c : Nat}
theorem Zn (h : n = 3 + Es.length) (L : Heap) (c : Nat) : (Z s rf R ++ (Es ++ L))[n + c]? = L[c]? := by
  subst h
  rw [List.getElem?_append_right (by simp [Z]; omega), List.getElem?_append_right (by simp [Z]; omega)]
  congr 1; simp [Z]; omega
theorem Zn0 (h : n = 3 + Es.length) (L : Heap) : (Z s rf R ++ (Es ++ L))[n]? = L[0]? := Zn h L 0
theorem Zs (h : n = 3 + Es.length) (L : Heap) (c : Nat) (o : O) : (Z s rf R ++ (Es ++ L)).set (n + c) o = Z s rf R ++ (Es ++ L.set c o) := by
  subst h
  rw [List.set_append, if_neg (by simp [Z]; omega), List.set_append, if_neg (by simp [Z]; omega)]
  have : 3 + Es.length + c - (Z s rf R).length - Es.length = c := by simp [Z]; omega
  rw [this]
theorem Zs0 (h : n = 3 + Es.length) (L : Heap) (o : O) : (Z s rf R ++ (Es ++ L)).set n o = Z s rf R ++ (Es ++ L.set 0 o) := Zs h L 0 o
theorem Zg (h : n = 3 + Es.length) (L : Heap) (c : Nat) (h2) : (Z s rf R ++ (Es ++ L))[n + c]'h2 = L[c]'(by subst h; simp [Z] at h2; omega) := by
  have e := Zn (s := s) (rf := rf) (R := R) h L c
  rw [List.getElem?_eq_getElem h2] at e
  exact (Option.some.inj (e.trans (List.getElem?_eq_getElem _)))
theorem Zg0 (h : n = 3 + Es.length) (L : Heap) (h2) : (Z s rf R ++ (Es ++ L))[n]'h2 = L[0]'(by subst h; simp [Z] at h2; omega) := Zg h L 0 h2
theorem Zl (h : n = 3 + Es.length) (L : Heap) : (Z s rf R ++ (Es ++ L)).length = n + L.length := by subst h; simp [Z]; omega
end

theorem Z_sub1 {s : List Dom} {rf : List Nat} {R : List (List V)} {X : Heap} : sub (Z s rf R ++ X) [1] = [.mem false [] (s.map Dom.row)] := by
  simp [sub, Z, O.ren, Function.comp_def]
theorem Z_merge1 {s : List Dom} {rf : List Nat} {R : List (List V)} {X : Heap} : merge (Z s rf R ++ X) [1] [.mem false [] (s.map Dom.row), .mem false [] (s.map Dom.row)] = Z s rf R ++ (X ++ [.mem false [] (s.map Dom.row)]) := by
  simp [merge, place, Z, O.ren, Function.comp_def]
/-- A copy's slice of marks: where each lies. -/
def cR (b : Nat) (ms : List (List Dom)) (i : Nat) : List (List V) := ((ms.take i).zipIdx).map fun p => [.own (b + 3 * p.2) 4 0 p.1.length p.1.length]
/-- What stands behind i marks copied, behind the original. -/
inductive CI (s : List Dom) (ms : List (List Dom)) (n : Nat) : Nat → Heap → Prop where
  | zero {i : Nat} (hi : i = 0) : CI s ms n i [.mem false [n + 1] [[.own (n + 1) 4 0 s.length s.length, nilS]], .mem false [] (s.map Dom.row)]
  | some {i : Nat} {rf rf' : List Nat} {G : O} {T : Heap} (hi : 0 < i) (hl : T.length = 3 * i - 2) (hk : ∀ j L, j < i → ms[j]? = some L → T[3 * j]? = some (.mem false [] (L.map Dom.row)))
      (hr : ∀ r ∈ rf, r < n + 4 + 3 * i) (hr' : ∀ r ∈ rf', r < n + 4 + 3 * i) : CI s ms n i (.mem false rf [[.own (n + 1) 4 0 s.length s.length, .own (n + 3) 1 0 i i]] :: .mem false [] (s.map Dom.row) :: G :: .mem false rf' (cR (n + 4) ms i) :: T)

theorem CI.len {s : List Dom} {ms : List (List Dom)} {n i : Nat} {E : Heap} (h : CI s ms n i E) : E.length = 2 + 3 * i := by
  cases h with
  | zero hi => simp [hi]
  | some hi hl hk hr hr' => simp [hl]; omega
theorem limO_of {m : Nat} {o : O} (h : ∀ r ∈ o.refs, r < m) : limO m o = o := by
  unfold limO; rw [if_pos (List.all_eq_true.2 fun r hr => by simpa using h r hr)]
theorem CI.trim {s : List Dom} {ms : List (List Dom)} {n i m : Nat} {E : Heap} (h : CI s ms n i E) (hm : n + 4 + 3 * i ≤ m) : CI s ms n i (E.map (limO m)) := by
  cases h with
  | zero hi =>
    rw [List.map_cons, List.map_cons, List.map_nil, limO_of (by simp [O.refs]; omega), limO_of (by simp [O.refs])]
    exact .zero hi
  | some hi hl hk hr hr' =>
    rw [List.map_cons, List.map_cons, List.map_cons, List.map_cons, limO_of (fun r h => by have := hr r h; omega), limO_of (by simp [O.refs]), limO_of (o := .mem false _ (cR (n + 4) ms i)) (fun r h => by have := hr' r h; omega)]
    refine .some hi (by simpa using hl) (fun j L hj hL => ?_) hr hr'
    rw [List.getElem?_map, hk j L hj hL, Option.map_some, limO_of (by simp [O.refs])]
theorem rowsOf_get {ms : List (List Dom)} {i : Nat} {L : List Dom} (h : ms[i]? = some L) : (rowsOf' ms)[i]? = some [.own (3 + i) 4 0 L.length L.length] := by
  have := kids_get 4 3 (ms.map fun L => L.map domCe) i (L.map domCe) (by simp [h])
  simp [rowsOf', kidsOf, this]
theorem objsOf_get {ms : List (List Dom)} {i : Nat} {L : List Dom} (h : ms[i]? = some L) : (objsOf ms)[i]? = some (.tree [] (L.map domCe)) := by simp [objsOf, h]
theorem cR_succ (b : Nat) {ms : List (List Dom)} {i : Nat} {L : List Dom} (h : ms[i]? = some L) : cR b ms (i + 1) = cR b ms i ++ [[.own (b + 3 * i) 4 0 L.length L.length]] := by
  have hi := lt_of_get h
  have hL : ms[i] = L := by rw [List.getElem?_eq_getElem hi] at h; exact Option.some.inj h
  unfold cR
  rw [List.take_succ_eq_append_getElem hi, List.zipIdx_append, List.map_append, hL]
  have : (ms.take i).length = i := by rw [List.length_take]; omega
  simp [this]
theorem cR_len (b : Nat) {ms : List (List Dom)} {i : Nat} (h : i ≤ ms.length) : (cR b ms i).length = i := by
  simp [cR]; omega
theorem treeD_ren (L : List Dom) (f : Nat → Nat) : O.ren f (.tree [] (L.map domCe)) = .tree [] (L.map domCe) := by simp [O.ren, domCe_ren]
theorem treeD_clo (L : List Dom) : (O.tree [] (L.map domCe)).clo := ⟨rfl, treeD_ren L, fun e => by cases e⟩
theorem memD_clo (L : List Dom) : (O.mem false [] (L.map Dom.row)).clo := ⟨rfl, fun f => by simp [O.ren, Function.comp_def], fun e => by cases e⟩
set_option maxHeartbeats 2000000 in
theorem copy_open {s : List Dom} {ms : List (List Dom)} (hs : s.length ≤ 64) (hm : ms.length ≤ 1000000) (hL : ∀ L ∈ ms, L.length ≤ 64) :
    DC Tryz.prog dom_Store_Copy.id [.ptr 0 1 0 0] (Z s (List.range' 3 ms.length) (rowsOf' ms) ++ objsOf ms) (fun r H => r = .ptr (3 + ms.length) 1 0 0 ∧ ∃ E, CI s ms (3 + ms.length) ms.length E ∧ H = Z s (List.range' 3 ms.length) (rowsOf' ms) ++ (objsOf ms ++ E)) := by
  refine DC.of dom_Store_Copy.ok (by simp) ?_
  have hol : (objsOf ms).length = ms.length := by simp [objsOf]
  have hrl := rowsOf_len ms
  obtain ⟨n, hn⟩ : ∃ n, n = 3 + (objsOf ms).length := ⟨_, rfl⟩
  have hn' : 3 + ms.length = n := by omega
  rw [hn']
  obtain ⟨R, hR⟩ : ∃ R, R = rowsOf' ms := ⟨_, rfl⟩
  obtain ⟨rf, hrf⟩ : ∃ rf, rf = List.range' 3 ms.length := ⟨_, rfl⟩
  rw [← hR, ← hrf]
  rw [← hR] at hrl
  have z0 := fun L => Zn0 (s := s) (rf := rf) (R := R) hn L
  have z1 := fun L c => Zn (s := s) (rf := rf) (R := R) hn L c
  have z2 := fun L o => Zs0 (s := s) (rf := rf) (R := R) hn L o
  have z3 := fun L c o => Zs (s := s) (rf := rf) (R := R) hn L c o
  have z5 := fun L c h2 => Zg (s := s) (rf := rf) (R := R) hn L c h2
  have z6 := fun L h2 => Zg0 (s := s) (rf := rf) (R := R) hn L h2
  have z4 := fun L => Zl (s := s) (rf := rf) (R := R) hn L
  generalize hEs : objsOf ms = Es at *
  unfold dom_Store_Copy.ir
  refine vc_cut (At [(0, .ptr 0 1 0 0)] (Z s rf R ++ Es)) (by simp [At]) ?_
  rintro ⟨sl, hp, bs⟩ ⟨rfl, h⟩
  simp only [sls_cons, sls_one] at h
  have z40 : (Z s rf R ++ Es).length = n := by simpa using z4 []
  refine vc_cut (At [(0, .ptr 0 1 0 0), (3, .ptr n 1 0 0)] (Z s rf R ++ (Es ++ [.mem false [n + 1] [[.own (n + 1) 4 0 s.length s.length, nilS]], .mem false [] (s.map Dom.row)]))) ?_ ?_
  · simp [h, z40, V.idsL, V.ids, z0, z1, z2, z3, z4, z5, z6]
    refine callm_go (cloneD_spec s hs) [1] ?_ ?_ ?_ ?_ (by simp) ?_
    · simp [h, V.idsL, V.ids, UE1_clos]
    · simp [h, V.idsL, V.ids, UE1_clos, O.refs]
      omega
    · simp [h, V.idsL, V.ids, UE1_clos]
    · exact Z_sub1
    · rw [Z_merge1]
      simp [z40, z0, z1, z2, z3, z4, z5, z6, h, At]
  clear h
  rintro ⟨sl, hp, bs⟩ ⟨rfl, h⟩
  simp only [sls_cons, sls_one] at h
  obtain ⟨k, hk⟩ : ∃ k, k = ms.length := ⟨_, rfl⟩
  refine vc_cut (fun st => ∃ E, CI s ms n k E ∧ At [(3, .ptr n 1 0 0)] (Z s rf R ++ (Es ++ E)) st) ?_ ?_
  · refine vc_cut (At [(3, .ptr n 1 0 0), (16, .own 2 1 0 k k), (17, V.i k), (18, V.i 0)] (Z s rf R ++ (Es ++ [.mem false [n + 1] [[.own (n + 1) 4 0 s.length s.length, nilS]], .mem false [] (s.map Dom.row)]))) (by simp [h, At, hrl, hk]) ?_
    clear h
    rintro ⟨sl, hp, bs⟩ ⟨rfl, h⟩
    simp only [sls_cons, sls_one] at h
    refine vc_block_of (vc_upto (n + 3 * k + 10) (by simp [z4]; omega) k (fun i st => ∃ E, CI s ms n i E ∧ At [(3, .ptr n 1 0 0), (16, .own 2 1 0 k k), (17, V.i k), (18, V.i i)] (Z s rf R ++ (Es ++ E)) st) ⟨_, .zero rfl, rfl, by simpa using h⟩ ?_)
    clear h
    rintro i ⟨sl, hp, bs⟩ hi ⟨E, hE, rfl, h⟩
    simp only [sls_cons, sls_one] at h
    unfold dom_Store_Copy.b0
    by_cases hil : i < k
    · obtain ⟨L, hLi⟩ : ∃ L, ms[i]? = some L := ⟨_, List.getElem?_eq_getElem (by omega)⟩
      have hLl := hL L (List.mem_of_getElem? hLi)
      have hRi : R[i]? = some [.own (3 + i) 4 0 L.length L.length] := by rw [hR]; exact rowsOf_get hLi
      have hsrc : ∀ X : Heap, (Z s rf R ++ (Es ++ X))[3 + i]? = some (.tree [] (L.map domCe)) := by
        intro X
        have := objsOf_get hLi
        rw [hEs] at this
        rw [List.getElem?_append_right (by simp [Z]), List.getElem?_append_left (by simp [Z]; omega)]
        simpa [Z] using this
      have hsrc' : ∀ (X : Heap) (h2), (Z s rf R ++ (Es ++ X))[3 + i]'h2 = .tree [] (L.map domCe) := by
        intro X h2
        have := hsrc X
        rw [List.getElem?_eq_getElem h2] at this
        exact Option.some.inj this
      have hw : IntKind.i64.wrap ((i : Int) + 1) = ((i + 1 : Nat) : Int) := by rw [wrap64] <;> omega
      refine vc_cut (At [(3, .ptr n 1 0 0), (16, .own 2 1 0 k k), (17, V.i k), (18, V.i i), (19, .bool true)] (Z s rf R ++ (Es ++ E))) (by simp [h, At, hil]) ?_
      clear h
      rintro ⟨sl, hp, bs⟩ ⟨rfl, h⟩
      simp only [sls_cons, sls_one] at h
      refine vc_cut (At [(3, .ptr n 1 0 0), (16, .own 2 1 0 k k), (17, V.i k), (18, V.i i)] (Z s rf R ++ (Es ++ E))) (by simp [h, At]) ?_
      clear h
      rintro ⟨sl, hp, bs⟩ ⟨rfl, h⟩
      simp only [sls_cons, sls_one] at h
      refine vc_cut (fun st => ∃ E, CI s ms n (i + 1) E ∧ At [(3, .ptr n 1 0 0), (16, .own 2 1 0 k k), (17, V.i k), (18, V.i i)] (Z s rf R ++ (Es ++ E)) st) (vc_block_of ?_) ?_
      · refine vc_cut (At [(3, .ptr n 1 0 0), (5, .own (3 + i) 4 0 L.length L.length), (16, .own 2 1 0 k k), (17, V.i k), (18, V.i i)] (Z s rf R ++ (Es ++ E))) ?_ ?_
        · have hlt : i < R.length := by omega
          have hRi' : R[i] = [.own (3 + i) 4 0 L.length L.length] := by rw [List.getElem?_eq_getElem hlt] at hRi; exact Option.some.inj hRi
          simp [h, At, hil, hRi', hlt]
          omega
        clear h
        rintro ⟨sl, hp, bs⟩ ⟨rfl, h⟩
        simp only [sls_cons, sls_one] at h
        have hoid : (3 + i) < n := by omega
        cases hE with
        | zero hi0 =>
          simp [h, z0, z1, z2, z3, z4, z5, z6]
          refine calla_one (cloneT_spec L hLl) (3 + i) ?_ (hsrc _) (treeD_clo L) (treeD_clo L) (by simp [memD_clo]) ?_ ?_ (by simp) ?_
          · simp [h, V.idsL, V.ids, addAll]
          · simp [h, V.oid]
            omega
          · simp [h, V.idsL, V.ids]
          · rw [set_same (hsrc _)]
            simp [h, z0, z1, z2, z3, z4, z5, z6, Nat.add_assoc]
            subst hi0
            refine ⟨_, .some (T := [.mem false [] (L.map Dom.row)]) (by omega) rfl (fun j M hj hM => ?_) (G := .mem false [n + 4] [[.own (n + 4) 4 0 L.length L.length]]) (rf := [n + 1, n + 3]) (rf' := [n + 4]) (by simp) (by simp), ?_, ?_⟩
            · obtain rfl : j = 0 := by omega
              rw [hLi] at hM
              cases hM
              rfl
            · rw [cR_succ _ hLi]
              rfl
            · simp
        | some hi hl hk hr hr' =>
          rename_i rf1 rf2 G T
          simp [h, z0, z1, z2, z3, z4, z5, z6]
          refine calla_one (cloneT_spec L hLl) (3 + i) ?_ (hsrc _) (treeD_clo L) (treeD_clo L) (by simp [memD_clo]) ?_ ?_ (by simp) ?_
          · simp [h, V.idsL, V.ids, addAll]
          · simp [h, V.oid]
            omega
          · simp [h, V.idsL, V.ids]
          · rw [set_same (hsrc _)]
            have hcl : (cR (n + 4) ms i).length = i := cR_len _ (by omega)
            simp [h, z0, z1, z2, z3, z4, z5, z6, Nat.add_assoc, hcl]
            have hTl : n + (T.length + 6) = n + 4 + 3 * i := by omega
            rw [hTl]
            refine ⟨by omega, _, .some (G := G) (rf := if n + 3 ∈ rf1 then rf1 else rf1 ++ [n + 3]) (rf' := if n + 4 + 3 * i ∈ rf2 then rf2 else rf2 ++ [n + 4 + 3 * i])
              (T := T ++ [.mem false [n + 4 + 3 * i] [[.own (n + 4 + 3 * i) 4 0 L.length L.length]], .res, .mem false [] (L.map Dom.row)]) (by omega) (by simp; omega) (fun j M hj hM => ?_) (fun r hr0 => ?_) (fun r hr0 => ?_), ?_, ?_⟩
            · by_cases hji : j = i
              · subst hji
                rw [hLi] at hM
                cases hM
                rw [List.getElem?_append_right (by omega)]
                have : 3 * j - T.length = 2 := by omega
                rw [this]; rfl
              · have := hk j M (by omega) hM
                rw [List.getElem?_append_left (lt_of_get this)]
                exact this
            · split at hr0
              · have := hr r hr0; omega
              · rw [List.mem_append] at hr0
                rcases hr0 with hr0 | hr0
                · have := hr r hr0; omega
                · simp at hr0; omega
            · split at hr0
              · have := hr' r hr0; omega
              · rw [List.mem_append] at hr0
                rcases hr0 with hr0 | hr0
                · have := hr' r hr0; omega
                · simp at hr0; omega
            · rw [cR_succ _ hLi]
            · simp
      · clear h
        rintro ⟨sl, hp, bs⟩ ⟨E, hE, rfl, h⟩
        simp only [sls_cons, sls_one] at h
        have hl2 := hE.len
        have hZt : (Z s rf R).map (limO (n + 3 * k + 10)) = Z s rf R := by
          simp only [Z, List.map_cons, List.map_nil]
          rw [limO_of (by simp [O.refs] <;> omega), limO_of (by simp [O.refs]), limO_of fun r hr => by
            have hr : r ∈ rf := hr
            rw [hrf, List.mem_range'_1] at hr; omega]
        have hEt : Es.map (limO (n + 3 * k + 10)) = Es := by
          rw [← hEs]
          simp [objsOf, Function.comp_def, limO_of, O.refs]
        have hall : List.take (n + 3 * k + 10) (Z s rf R ++ (Es ++ E.map (limO (n + 3 * k + 10)))) = Z s rf R ++ (Es ++ E.map (limO (n + 3 * k + 10))) := List.take_of_length_le (by rw [z4]; simp; omega)
        simp [h, hw, hil, hZt, hEt, hall]
        refine ⟨_, hE.trim (by omega), rfl, ?_⟩
        simp
        omega
    · have hik : i = k := by omega
      subst hik
      refine vc_cut (At [(3, .ptr n 1 0 0), (19, .bool false)] (Z s rf R ++ (Es ++ E))) (by simp [h, At]) ?_
      clear h
      rintro ⟨sl, hp, bs⟩ ⟨rfl, h⟩
      simp only [sls_cons, sls_one] at h
      simp [h, At]
      exact hE
  · clear h
    rintro ⟨sl, hp, bs⟩ ⟨E, hE, rfl, h⟩
    simp only [sls_cons, sls_one] at h
    simp [h, dom_Store_Copy.rs]
    rw [← hk]
    exact hE
end Go.Abs.G


namespace Go.Abs.G
open Go.Proofs
set_option linter.unusedVariables false
set_option linter.unusedSimpArgs false

theorem close_storeO {w : World} {β : Nat → Hd} {F : Nat → Prop} {H : Heap} {s : List Dom} {T : List (List Ce)} {rf rb : List Nat} {p a b : Nat} (hk : HOK w.heap H β F)
    (h0 : H[p]? = some (.mem false rf [[.own a 4 0 s.length s.length, .own b 1 0 T.length T.length]])) (ha : H[a]? = some (.mem false [] (s.map Dom.row))) (hb : H[b]? = some (.tree rb T)) (hT : Ce.idsR T = [])
    (na : a ≠ p) (nb : b ≠ p) (nab : a ≠ b) (hlo : (β p).lo = 0) : ∃ β' H2, Adv F w H β w H2 β' ∧ H2[p]? = some (St1 s T) ∧ H2.length = H.length ∧ ∀ j, j ≠ p → j ≠ a → j ≠ b → H2[j]? = H[j]? := by
  obtain ⟨β1, a1⟩ := adv_toTree hk h0 hlo
  generalize hP : O.tree rf (flatC [[.own a 4 0 s.length s.length, .own b 1 0 T.length T.length]]) = P at a1
  have p1 : (H.set p P)[p]? = some (.tree rf [[.v (.own a 4 0 s.length s.length), .v (.own b 1 0 T.length T.length)]]) := by rw [get_set h0, ← hP]; rfl
  have q1 : (H.set p P)[a]? = some (.mem false [] (s.map Dom.row)) := by rw [getElem?_set_ne' na]; exact ha
  have r1 : (H.set p P)[b]? = some (.tree rb T) := by rw [getElem?_set_ne' nb]; exact hb
  have la : (β1 a).lo = 0 := lo_of_tree (i := 0) (j := 0) a1.hok p1 rfl rfl (by unfold hdOf; rw [q1]; simp)
  have hl1 : (H.set p P).length = H.length := List.length_set
  have o1 : ∀ j, j ≠ p → j ≠ a → j ≠ b → (H.set p P)[j]? = H[j]? := fun j h1 h2 h3 => getElem?_set_ne' h1
  generalize H.set p P = H1 at a1 p1 q1 r1 hl1 o1
  obtain ⟨β2, a2⟩ := adv_toTree a1.hok q1 la
  rw [← domCe_flat] at a2
  have p2 : (H1.set a (.tree [] (s.map domCe)))[p]? = some (.tree rf [[.v (.own a 4 0 s.length s.length), .v (.own b 1 0 T.length T.length)]]) := by rw [getElem?_set_ne' (Ne.symm na)]; exact p1
  have q2 : (H1.set a (.tree [] (s.map domCe)))[a]? = some (.tree [] (s.map domCe)) := get_set q1
  have r2 : (H1.set a (.tree [] (s.map domCe)))[b]? = some (.tree rb T) := by rw [getElem?_set_ne' (Ne.symm nab)]; exact r1
  have hl2 : (H1.set a (.tree [] (s.map domCe))).length = H.length := by rw [List.length_set]; exact hl1
  have o2 : ∀ j, j ≠ p → j ≠ a → j ≠ b → (H1.set a (.tree [] (s.map domCe)))[j]? = H[j]? := fun j h1 h2 h3 => (getElem?_set_ne' h2).trans (o1 j h1 h2 h3)
  generalize H1.set a (.tree [] (s.map domCe)) = H2 at a2 p2 q2 r2 hl2 o2
  obtain ⟨β3, a3⟩ := adv_pack (i := 0) (j := 0) a2.hok p2 q2 (Ne.symm na) rfl rfl (by simp)
  generalize hP3 : O.tree (rf ++ []) _ = P3 at a3
  have p3 : ((H2.set a O.dead).set p P3)[p]? = some (.tree (rf ++ []) [[.n 4 (s.map domCe), .v (.own b 1 0 T.length T.length)]]) := by rw [get_set (x := _) (by rw [getElem?_set_ne' (Ne.symm na)]; exact p2), ← hP3]; rfl
  have r3 : ((H2.set a O.dead).set p P3)[b]? = some (.tree rb T) := by rw [getElem?_set_ne' nb, getElem?_set_ne' (Ne.symm nab)]; exact r2
  have hl3 : ((H2.set a O.dead).set p P3).length = H.length := by rw [List.length_set, List.length_set]; exact hl2
  have o3 : ∀ j, j ≠ p → j ≠ a → j ≠ b → ((H2.set a O.dead).set p P3)[j]? = H[j]? := fun j h1 h2 h3 => (getElem?_set_ne' h1).trans ((getElem?_set_ne' h2).trans (o2 j h1 h2 h3))
  generalize (H2.set a O.dead).set p P3 = H3 at a3 p3 r3 hl3 o3
  obtain ⟨β4, a4⟩ := adv_pack (i := 0) (j := 1) a3.hok p3 r3 (Ne.symm nb) rfl rfl rfl
  generalize hP4 : O.tree (rf ++ [] ++ rb) _ = P4 at a4
  have p4 : ((H3.set b O.dead).set p P4)[p]? = some (.tree (rf ++ [] ++ rb) [[.n 4 (s.map domCe), .n 1 T]]) := by rw [get_set (x := _) (by rw [getElem?_set_ne' (Ne.symm nb)]; exact p3), ← hP4]; rfl
  have hl4 : ((H3.set b O.dead).set p P4).length = H.length := by rw [List.length_set, List.length_set]; exact hl3
  have o4 : ∀ j, j ≠ p → j ≠ a → j ≠ b → ((H3.set b O.dead).set p P4)[j]? = H[j]? := fun j h1 h2 h3 => (getElem?_set_ne' h1).trans ((getElem?_set_ne' h3).trans (o3 j h1 h2 h3))
  generalize (H3.set b O.dead).set p P4 = H4 at a4 p4 hl4 o4
  obtain ⟨β5, a5⟩ := adv_refsT (refs' := []) a4.hok p4 (by simp [Ce.idsR, Ce.idsL, Ce.ids, domCe_ids, hT])
  exact ⟨β5, _, a1.trans (a2.trans (a3.trans (a4.trans a5))), get_set p4, by rw [List.length_set]; exact hl4, fun j h1 h2 h3 => (getElem?_set_ne' h1).trans (o4 j h1 h2 h3)⟩

/-- A store that lies open, its marks too, as one object. -/
theorem close_gen {w : World} {β : Nat → Hd} {F : Nat → Prop} {H : Heap} {vs : Array Value} {xs : List V} {q : Nat} {s : List Dom} {ms : List (List Dom)} {rf rb : List Nat} {p a b : Nat} {K : List Kid} (hk : HOK w.heap H β F)
    (hr : RVs (cx w.heap H β F) vs xs) (hq : xs[q]? = some (.ptr p 1 0 0))
    (h0 : H[p]? = some (.mem false rf [[.own a 4 0 s.length s.length, .own b 1 0 ms.length ms.length]])) (ha : H[a]? = some (.mem false [] (s.map Dom.row)))
    (hb : H[b]? = some (.mem false rb (K.map fun c => [.own c.id c.es 0 c.L.length c.L.length]))) (hK : K.map Kid.L = ms.map fun L => L.map domCe) (hes : ∀ c ∈ K, c.es = 4) (hc : ∀ c ∈ K, H[c.id]? = some (.tree c.refs c.L))
    (hnd : (K.map Kid.id).Nodup) (kp : p ∉ K.map Kid.id) (ka : a ∉ K.map Kid.id) (kb : b ∉ K.map Kid.id)
    (na : a ≠ p) (nb : b ≠ p) (nab : a ≠ b) : ∃ β' H2, Adv F w H β w H2 β' ∧ H2[p]? = some (St1 s (mT ms)) ∧ H2.length = H.length ∧ ∀ j, j ≠ p → j ≠ a → j ≠ b → j ∉ K.map Kid.id → H2[j]? = H[j]? := by
  have hKl : K.length = ms.length := by have := congrArg List.length hK; simpa using this
  have lp := lo_arg hr hq (by unfold hdOf; rw [h0]; rfl)
  have lb : (β b).lo = 0 := lo_of_cell (p := p) (c := b) (i := 0) (j := 1) hk h0 lp rfl rfl (by unfold hdOf; rw [hb]; simp [hKl])
  obtain ⟨β1, a1⟩ := adv_toTree hk hb lb
  have hfl : flatC (K.map fun c => [.own c.id c.es 0 c.L.length c.L.length]) = K.map Kid.own := by simp [flatC, Kid.own, Function.comp_def]
  rw [hfl] at a1
  obtain ⟨β2, H2, rf2, a2, b1, b2, b3⟩ := adv_packAll (id := b) K [] _ β1 rb a1.hok (get_set hb) (fun c hcm => by
    have hne : c.id ≠ b := fun e => kb (e ▸ List.mem_map_of_mem hcm)
    exact ⟨by rw [getElem?_set_ne' hne]; exact hc c hcm, hne⟩) hnd
  have hT : ([] ++ K).map Kid.nest = mT ms := by
    have h1 : K.map Kid.nest = (K.map Kid.L).map fun L => [Ce.n 4 L] := by
      rw [List.map_map]
      exact List.map_congr_left fun c hcm => by simp [Kid.nest, hes c hcm]
    rw [List.nil_append, h1, hK]; simp [mT, Function.comp_def]
  rw [hT] at b1
  have hTl : (mT ms).length = ms.length := by simp [mT]
  obtain ⟨β3, H3, a3, c1, c2, c3⟩ := close_storeO (p := p) (a := a) (b := b) (s := s) (T := mT ms) (rf := rf) a2.hok (by rw [b3 p (Ne.symm nb) kp, getElem?_set_ne' (Ne.symm nb), hTl]; exact h0) (by rw [b3 a nab ka, getElem?_set_ne' nab]; exact ha) b1 (mT_ids ms) na nb nab
    (lo_arg (hr.mono (a1.trans a2).le) hq (by unfold hdOf; rw [b3 p (Ne.symm nb) kp, getElem?_set_ne' (Ne.symm nb), h0]; rfl))
  refine ⟨β3, H3, a1.trans (a2.trans a3), c1, by rw [c2, b2, List.length_set], fun j h1 h2 h3 h4 => ?_⟩
  rw [c3 j h1 h2 h3, b3 j h3 h4, getElem?_set_ne' h3]
end Go.Abs.G


namespace Go.Abs.G
open Go.Proofs
set_option linter.unusedVariables false
set_option linter.unusedSimpArgs false

theorem cR_kids (b : Nat) (ms : List (List Dom)) : cR b ms ms.length = ((ms.zipIdx.map fun p => (⟨b + 3 * p.2, 4, [], p.1.map domCe⟩ : Kid)).map fun c => [V.own c.id c.es 0 c.L.length c.L.length]) := by
  simp [cR, Function.comp_def]

theorem zipIdx_ids (b : Nat) : ∀ (ms : List (List Dom)) (k : Nat), ((ms.zipIdx k).map fun p => b + 3 * p.2).Nodup
  | [], k => by simp
  | L :: ms, k => by
    rw [List.zipIdx_cons, List.map_cons, List.nodup_cons]
    refine ⟨fun h => ?_, zipIdx_ids b ms (k + 1)⟩
    obtain ⟨p, hp, he⟩ := List.mem_map.1 h
    have := List.le_snd_of_mem_zipIdx hp
    simp only at he
    omega

theorem kids_mapL (es : Nat) : ∀ (l : List (List (List Ce))) (n : Nat), (kids es n l).map Kid.L = l
  | [], n => rfl
  | L :: l, n => by simp [kids, kids_mapL es l (n + 1)]
theorem kidsOf_L (ms : List (List Dom)) : (kidsOf ms).map Kid.L = ms.map fun L => L.map domCe := kids_mapL 4 _ 3
theorem zipIdx_fst {α β : Type} (f : α → β) : ∀ (l : List α) (k : Nat), (l.zipIdx k).map (fun p => f p.1) = l.map f
  | [], k => rfl
  | a :: l, k => by simp [List.zipIdx_cons, zipIdx_fst f l (k + 1)]

theorem copy_packed {s : List Dom} {ms : List (List Dom)} (hs : s.length ≤ 64) (hm : ms.length ≤ 1000000) (hL : ∀ L ∈ ms, L.length ≤ 64) :
    DC Tryz.prog dom_Store_Copy.id [.ptr 0 1 0 0] [St1 s (mT ms)] (fun r H => r = .ptr 1 1 0 0 ∧ H = [St1 s (mT ms), St1 s (mT ms)]) := by
  have hcl : ∀ f, O.ren f (St1 s (mT ms)) = St1 s (mT ms) := fun f => by
    simp [St1, O.ren, Ce.renR, Ce.renL, Ce.ren, domCe_ren, mT_ren]
  refine DC.picks (Q := fun r H => r = .ptr (3 + ms.length) 1 0 0 ∧ H[0]? = some (St1 s (mT ms)) ∧ H[3 + ms.length]? = some (St1 s (mT ms))) ?_ ?_
  rotate_left
  · rintro r H ⟨rfl, h0, h1⟩
    refine ⟨[0, 3 + ms.length], ⟨by simp; omega, fun i hi => ?_, fun i hi => ?_, fun i hi k hk => ?_⟩, by simp, by simp, ?_, ?_⟩
    · simp only [List.mem_cons, List.not_mem_nil, or_false] at hi
      rcases hi with rfl | rfl
      · exact lt_of_get h0
      · exact lt_of_get h1
    · simp only [List.mem_cons, List.not_mem_nil, or_false] at hi
      rcases hi with rfl | rfl
      · rw [getD_some h0]; simp [St1]
      · rw [getD_some h1]; simp [St1]
    · simp only [List.mem_cons, List.not_mem_nil, or_false] at hi
      rcases hi with rfl | rfl
      · rw [getD_some h0] at hk; simp [St1, O.refs] at hk
      · rw [getD_some h1] at hk; simp [St1, O.refs] at hk
    · simp only [V.ren, idx, List.idxOf_cons]
      have : (0 == 3 + ms.length) = false := by simp; omega
      simp [this]
    · simp only [sub, List.map_cons, List.map_nil, getD_some h0, getD_some h1, hcl]
  refine DC.pre ((open_store (mT_ids ms)).trans step_open) (DC.post' (copy_open hs hm hL) ?_)
  rintro x H1 ⟨rfl, E, hE, rfl⟩ w β F vs hk hr
  have hol : (objsOf ms).length = ms.length := by simp [objsOf]
  obtain ⟨n, hn⟩ : ∃ n, n = 3 + (objsOf ms).length := ⟨_, rfl⟩
  have hn' : 3 + ms.length = n := by omega
  rw [hn'] at hE hr ⊢
  have z1 := fun L c => Zn (s := s) (rf := List.range' 3 ms.length) (R := rowsOf' ms) hn L c
  have z0 := fun L => Zn0 (s := s) (rf := List.range' 3 ms.length) (R := rowsOf' ms) hn L
  generalize hH : Z s (List.range' 3 ms.length) (rowsOf' ms) ++ (objsOf ms ++ E) = H at hk hr ⊢
  have g0 : H[0]? = some (.mem false [1, 2] [[.own 1 4 0 s.length s.length, .own 2 1 0 ms.length ms.length]]) := by rw [← hH, Z_0, rowsOf_len]
  have g1 : H[1]? = some (.mem false [] (s.map Dom.row)) := by rw [← hH, Z_1]
  have g2 : H[2]? = some (.mem false (List.range' 3 ms.length) (rowsOf' ms)) := by rw [← hH, Z_2]
  have gk : ∀ i L, ms[i]? = some L → H[3 + i]? = some (.tree [] (L.map domCe)) := fun i L h => by
    have hi := lt_of_get h
    rw [← hH, List.getElem?_append_right (by simp), List.getElem?_append_left (by simp; omega)]
    have : 3 + i - (Z s (List.range' 3 ms.length) (rowsOf' ms)).length = i := by simp
    rw [this]; exact objsOf_get h
  have ge : ∀ c, H[n + c]? = E[c]? := fun c => by rw [← hH]; exact z1 E c
  -- the original, when the copy is told
  have orig : ∀ {β : Nat → Hd} {H2 : Heap}, HOK w.heap H2 β F → RVs (cx w.heap H2 β F) vs [.ptr n 1 0 0, .ptr 0 1 0 0] → (∀ j, j < n → H2[j]? = H[j]?) →
      ∃ β' H3, Adv F w H2 β w H3 β' ∧ H3[0]? = some (St1 s (mT ms)) ∧ ∀ j, n ≤ j → H3[j]? = H2[j]? := fun {β H2} hk hr hj => by
    have hids : (kidsOf ms).map Kid.id = List.range' 3 ms.length := by unfold kidsOf; rw [kids_ids, List.length_map]
    obtain ⟨β', H3, a, b1, b2, b3⟩ := close_gen (q := 1) (p := 0) (a := 1) (b := 2) (s := s) (ms := ms) (K := kidsOf ms) hk hr rfl ((hj 0 (by omega)).trans g0) ((hj 1 (by omega)).trans g1) ((hj 2 (by omega)).trans g2)
      (kidsOf_L ms) (fun c hc => (kids_mem 4 3 _ c hc).choose_spec.2.2.2) (fun c hc => by
        obtain ⟨i, h1, h2, h3, h4⟩ := kids_mem 4 3 _ c hc
        rw [List.getElem?_map, Option.map_eq_some_iff] at h1
        obtain ⟨L, h1, h5⟩ := h1
        have := lt_of_get h1
        rw [h2, h3, ← h5, hj _ (by omega)]
        exact gk i L h1) (by rw [hids]; exact List.nodup_range') (by rw [hids, List.mem_range'_1]; omega) (by rw [hids, List.mem_range'_1]; omega) (by rw [hids, List.mem_range'_1]; omega) (by simp) (by simp) (by simp)
    exact ⟨β', H3, a, b1, fun j h => b3 j (by omega) (by omega) (by omega) (by rw [hids, List.mem_range'_1]; omega)⟩
  have hx : (Z s (List.range' 3 ms.length) (rowsOf' ms)).length = 3 := rfl
  -- the copy
  have copy : ∃ β' H2, Adv F w H β w H2 β' ∧ H2[n]? = some (St1 s (mT ms)) ∧ ∀ j, j < n → H2[j]? = H[j]? := by
    cases hE with
    | zero hi =>
      obtain rfl : ms = [] := List.length_eq_zero_iff.1 hi
      have e0 : H[n]? = some (.mem false [n + 1] [[.own (n + 1) 4 0 s.length s.length, nilS]]) := ge 0
      have e1 : H[n + 1]? = some (.mem false [] (s.map Dom.row)) := ge 1
      have lp := lo_arg (i := 0) hr rfl (by unfold hdOf; rw [e0]; rfl)
      obtain ⟨β1, a1⟩ := adv_toTree hk e0 lp
      have f0 : (H.set n (.tree [n + 1] (flatC [[.own (n + 1) 4 0 s.length s.length, nilS]])))[n]? = some (.tree [n + 1] [[.v (.own (n + 1) 4 0 s.length s.length), .v nilS]]) := by rw [get_set e0]; rfl
      have f1 : (H.set n (.tree [n + 1] (flatC [[.own (n + 1) 4 0 s.length s.length, nilS]])))[n + 1]? = some (.mem false [] (s.map Dom.row)) := by rw [getElem?_set_ne' (by omega)]; exact e1
      have fo : ∀ j, j < n → (H.set n (.tree [n + 1] (flatC [[.own (n + 1) 4 0 s.length s.length, nilS]])))[j]? = H[j]? := fun j h => getElem?_set_ne' (by omega)
      generalize H.set n (.tree [n + 1] (flatC [[.own (n + 1) 4 0 s.length s.length, nilS]])) = H1 at a1 f0 f1 fo
      have la : (β1 (n + 1)).lo = 0 := lo_of_tree (i := 0) (j := 0) a1.hok f0 rfl rfl (by unfold hdOf; rw [f1]; simp)
      obtain ⟨β2, a2⟩ := adv_toTree a1.hok f1 la
      rw [← domCe_flat] at a2
      have g0 : (H1.set (n + 1) (.tree [] (s.map domCe)))[n]? = some (.tree [n + 1] [[.v (.own (n + 1) 4 0 s.length s.length), .v nilS]]) := by rw [getElem?_set_ne' (by omega)]; exact f0
      have g1 : (H1.set (n + 1) (.tree [] (s.map domCe)))[n + 1]? = some (.tree [] (s.map domCe)) := get_set f1
      have go : ∀ j, j < n → (H1.set (n + 1) (.tree [] (s.map domCe)))[j]? = H[j]? := fun j h => (getElem?_set_ne' (by omega)).trans (fo j h)
      generalize H1.set (n + 1) (.tree [] (s.map domCe)) = H2 at a2 g0 g1 go
      obtain ⟨β3, a3⟩ := adv_pack (i := 0) (j := 0) a2.hok g0 g1 (by omega) rfl rfl (by simp)
      generalize hP : O.tree ([n + 1] ++ []) _ = P at a3
      have k0 : ((H2.set (n + 1) .dead).set n P)[n]? = some (.tree [n + 1] [[.n 4 (s.map domCe), .v nilS]]) := by rw [get_set (x := _) (by rw [getElem?_set_ne' (by omega)]; exact g0), ← hP]; rfl
      have ko : ∀ j, j < n → ((H2.set (n + 1) .dead).set n P)[j]? = H[j]? := fun j h => (getElem?_set_ne' (by omega)).trans ((getElem?_set_ne' (by omega)).trans (go j h))
      generalize (H2.set (n + 1) .dead).set n P = H3 at a3 k0 ko
      obtain ⟨β4, a4⟩ := adv_nilcell (i := 0) (j := 1) (es := 1) a3.hok k0 rfl rfl
      have l0 := get_set (y := O.tree [n + 1] ([[.n 4 (s.map domCe), .v nilS]].set 0 ([.n 4 (s.map domCe), .v nilS].set 1 (.n 1 [])))) k0
      obtain ⟨β5, a5⟩ := adv_refsT (refs' := []) a4.hok l0 (by simp [Ce.idsR, Ce.idsL, Ce.ids, domCe_ids])
      refine ⟨β5, _, a1.trans (a2.trans (a3.trans (a4.trans a5))), get_set l0, fun j h => ?_⟩
      rw [getElem?_set_ne' (by omega), getElem?_set_ne' (by omega)]
      exact ko j h
    | some hi hl hkk hr1 hr2 =>
      rename_i rf1 rf2 G T
      have e0 : H[n]? = some (.mem false rf1 [[.own (n + 1) 4 0 s.length s.length, .own (n + 3) 1 0 ms.length ms.length]]) := ge 0
      have e1 : H[n + 1]? = some (.mem false [] (s.map Dom.row)) := ge 1
      have e3 : H[n + 3]? = some (.mem false rf2 (cR (n + 4) ms ms.length)) := ge 3
      have e4 : ∀ j L, ms[j]? = some L → H[n + 4 + 3 * j]? = some (.mem false [] (L.map Dom.row)) := fun j L h => by
        have h1 : n + 4 + 3 * j = n + (3 * j + 4) := by omega
        rw [h1, ge]
        exact hkk j L (lt_of_get h) h
      have lp := lo_arg (i := 0) hr rfl (by unfold hdOf; rw [e0]; rfl)
      have lb : (β (n + 3)).lo = 0 := lo_of_cell (p := n) (c := n + 3) (i := 0) (j := 1) hk e0 lp rfl rfl (by unfold hdOf; rw [e3]; simp [cR_len])
      obtain ⟨K, hK⟩ : ∃ K : List Kid, K = ms.zipIdx.map fun p => (⟨n + 4 + 3 * p.2, 4, [], p.1.map domCe⟩ : Kid) := ⟨_, rfl⟩
      have hcK := cR_kids (n + 4) ms
      rw [← hK] at hcK
      obtain ⟨β1, H1, a1, k1, k2, k3⟩ := adv_treeAll (ms.zipIdx.map fun p => (n + 4 + 3 * p.2, p.1.map Dom.row)) H β hk (fun c hc => by
        obtain ⟨p, hp, rfl⟩ := List.mem_map.1 hc
        have hp' := List.mem_zipIdx_iff_getElem?.1 hp
        refine ⟨e4 _ _ hp', ?_⟩
        refine lo_of_cell (p := n + 3) (i := p.2) (j := 0) (k := p.1.length) (es := 4) (row := [.own (n + 4 + 3 * p.2) 4 0 p.1.length p.1.length]) hk e3 lb ?_ rfl (by unfold hdOf; rw [e4 _ _ hp']; simp)
        simp [cR, hp']) (by
          rw [List.map_map]; exact zipIdx_ids (n + 4) ms 0)
      have hid2 : (ms.zipIdx.map fun p => (n + 4 + 3 * p.2, p.1.map Dom.row)).map (·.1) = K.map Kid.id := by rw [hK]; simp [Function.comp_def]
      rw [hid2] at k3
      have kin : ∀ j, j < n + 4 → j ∉ K.map Kid.id := fun j hj h => by
        rw [hK, List.map_map] at h
        obtain ⟨p, hp, rfl⟩ := List.mem_map.1 h
        simp at hj
        omega
      obtain ⟨β2, H2, a2, c1, c2, c3⟩ := close_gen (q := 0) (p := n) (a := n + 1) (b := n + 3) (s := s) (ms := ms) (K := K) a1.hok (hr.mono a1.le) rfl ((k3 _ (kin _ (by omega))).trans e0) ((k3 _ (kin _ (by omega))).trans e1) ((k3 _ (kin _ (by omega))).trans (hcK ▸ e3))
        (by rw [hK, List.map_map]; exact zipIdx_fst (fun L => L.map domCe) ms 0) (fun c hc => by rw [hK] at hc; obtain ⟨p, _, rfl⟩ := List.mem_map.1 hc; rfl) (fun c hc => by
          rw [hK] at hc
          obtain ⟨p, hp, rfl⟩ := List.mem_map.1 hc
          have := k1 (n + 4 + 3 * p.2, p.1.map Dom.row) (List.mem_map_of_mem (f := fun p => (n + 4 + 3 * p.2, p.1.map Dom.row)) hp)
          rw [← domCe_flat] at this
          exact this) (by rw [← hid2, List.map_map]; exact zipIdx_ids (n + 4) ms 0) (kin _ (by omega)) (kin _ (by omega)) (kin _ (by omega)) (by omega) (by omega) (by omega)
      exact ⟨β2, H2, a1.trans a2, c1, fun j hj => (c3 j (by omega) (by omega) (by omega) (kin _ (by omega))).trans (k3 j (kin _ (by omega)))⟩
  obtain ⟨β1, H1, a1, b1, b2⟩ := copy
  obtain ⟨β2, H2, a2, d1, d2⟩ := orig a1.hok (hr.mono a1.le) b2
  exact ⟨β2, H2, a1.trans a2, rfl, d1, by rw [d2 n (Nat.le_refl _)]; exact b1⟩
end Go.Abs.G


namespace Go.Abs.G
open Go.Proofs
set_option linter.unusedVariables false
set_option linter.unusedSimpArgs false

/-- A store that lies open somewhere. -/
structure Uat (H : Heap) (s : List Dom) (T : List (List Ce)) (p a b : Nat) : Prop where
  h0 : H[p]? = some (.mem false [a, b] [[.own a 4 0 s.length s.length, .own b 1 0 T.length T.length]])
  h1 : H[a]? = some (.mem false [] (s.map Dom.row))
  h2 : H[b]? = some (.tree [] T)
  na : p ≠ a
  nb : p ≠ b
  nab : a ≠ b

section
variable {H : Heap} {s : List Dom} {T : List (List Ce)} {p a b : Nat}
theorem Uat.sub (h : Uat H s T p a b) (hT : ∀ f, Ce.renR f T = T) : Abs.sub H [p, a, b] = U s T := by
  have i1 : idx [p, a, b] a = 1 := by simp [idx, List.idxOf_cons, beq_false_of_ne h.na]
  have i2 : idx [p, a, b] b = 2 := by simp [idx, List.idxOf_cons, beq_false_of_ne h.nb, beq_false_of_ne h.nab]
  simp [-idx, Abs.sub, getD_some h.h0, getD_some h.h1, getD_some h.h2, h.h0, h.h1, h.h2, O.ren, V.renL, V.ren, i1, i2, hT, U, Function.comp_def]
theorem Uat.ok (h : Uat H s T p a b) : OkSel H [p, a, b] := by
  refine ⟨by simp [h.na, h.nb, h.nab], fun i hi => ?_, fun i hi => ?_, fun i hi k hk => ?_⟩ <;> (simp only [List.mem_cons, List.not_mem_nil, or_false] at hi)
  · rcases hi with rfl | rfl | rfl
    · exact lt_of_get h.h0
    · exact lt_of_get h.h1
    · exact lt_of_get h.h2
  · rcases hi with rfl | rfl | rfl
    · rw [getD_some h.h0]; simp
    · rw [getD_some h.h1]; simp
    · rw [getD_some h.h2]; simp
  · rcases hi with rfl | rfl | rfl
    · rw [getD_some h.h0] at hk; simp [O.refs] at hk ⊢; exact .inr hk
    · rw [getD_some h.h1] at hk; simp [O.refs] at hk
    · rw [getD_some h.h2] at hk; simp [O.refs] at hk
theorem Uat.clos (h : Uat H s T p a b) : clos H 8 [p] = [p, a, b] := by
  have h3 : ∀ n, Abs.clos H n [p, a, b] = [p, a, b] := fun n => clos_stop H n _ h.ok.cl
  have cs : ∀ n l, Abs.clos H (n + 1) l = Abs.clos H n (addAll l (l.flatMap fun i => (H.getD i .dead).refs)) := fun _ _ => rfl
  rw [cs 7]
  simp only [List.flatMap_cons, List.flatMap_nil, getD_some h.h0, O.refs, List.append_nil]
  have : addAll [p] [a, b] = [p, a, b] := by simp [addAll, Ne.symm h.na, Ne.symm h.nb, Ne.symm h.nab]
  rw [this]; exact h3 7
theorem Uat.merge (h : Uat H s T p a b) (hT : ∀ f, Ce.renR f T = T) : merge H [p, a, b] (U s T) = H := by
  have i1 : back [p, a, b] H.length 1 = a := rfl
  have i2 : back [p, a, b] H.length 2 = b := rfl
  have e0 : O.ren (back [p, a, b] H.length) (.mem false [1, 2] [[.own 1 4 0 s.length s.length, .own 2 1 0 T.length T.length]]) = .mem false [a, b] [[.own a 4 0 s.length s.length, .own b 1 0 T.length T.length]] := by simp [O.ren, V.renL, V.ren, i1, i2]
  have e1 : O.ren (back [p, a, b] H.length) (.mem false [] (s.map Dom.row)) = .mem false [] (s.map Dom.row) := by simp [O.ren, Function.comp_def]
  have e2 : O.ren (back [p, a, b] H.length) (.tree [] T) = .tree [] T := by simp [O.ren, hT]
  simp only [Abs.merge, U, List.length_cons, List.length_nil, Nat.zero_add, Nat.reduceAdd, List.take_succ_cons, List.take_zero, List.map_cons, List.map_nil, List.drop_succ_cons, List.drop_zero, List.append_nil, e0, e1, e2, place]
  rw [set_same h.h0, set_same h.h1, set_same h.h2]
end

end Go.Abs.G


namespace Go.Abs.G
open Go.Proofs
set_option linter.unusedVariables false
set_option linter.unusedSimpArgs false

@[simp] theorem St1_lim (n : Nat) (s : List Dom) (T : List (List Ce)) : limO n (St1 s T) = St1 s T := by simp [St1, limO, O.refs]

/-- New's store alone. -/
theorem newP1 (m : Model) (hm : okModel m) : DC Tryz.prog dom_New.id [.agg m.cells] [] (fun r H => r = .ptr 0 1 0 0 ∧ H = [St1 (domsOf m) (mT [])]) := by
  refine DC.picks (newP m hm) ?_
  rintro r H ⟨rfl, B, rfl⟩
  exact ⟨[1], by simp [St1, O.refs], by simp, by simp [V.ids], rfl, by simp [sub, St1, O.ren, Ce.renR, Ce.renL, Ce.ren, domCe_ren, mT_ren]⟩
end Go.Abs.G


/- Evaluation that leaves what comes behind alone. -/
namespace Go.Abs
set_option linter.unusedVariables false

def vcF (P : Program) (c : C) (Q : Ex → St → Prop) [Fix Q] (st : St) : Prop := vc P c Q st
def vcItsF (P : Program) (l : List It) (k : St → Prop) [Fix k] (st : St) : Prop := vcIts P l k st
def IvcF (P : Program) (i : I) (k : St → Prop) [Fix k] (st : St) : Prop := i.vc P k st

section
variable {P : Program} {Q : Ex → St → Prop} {st : St} {x : Operand} {a b c : C} {k : St → Prop} {l its : List It} {j t n id : Nat} {want : Bool} {d : Option Nat} {i : I}
@[simp ↓ high] theorem vcF_of : vc P c Q st = vcF P c Q st := propext Iff.rfl
@[simp ↓ high] theorem vcItsF_of : vcIts P l k st = vcItsF P l k st := propext Iff.rfl
@[simp ↓ high] theorem IvcF_of : I.vc P i k st = IvcF P i k st := propext Iff.rfl
@[simp] theorem vcF_skip : vcF P .skip Q st = Q .norm st := propext Iff.rfl
@[simp] theorem vcF_reg : vcF P (.reg n its) Q st = vcItsF P its (Q .norm) (st.res n) := propext Iff.rfl
@[simp] theorem vcF_seq : vcF P (.seq a b) Q st = vcF P a (fun e s => match e with | .norm => vcF P b Q s | .exit i => Q (.exit i) s | .ret => Q .ret s) st := propext Iff.rfl
@[simp] theorem vcF_block : vcF P (.block id c) Q st = vcF P c (fun e s => match e with | .norm => Q .norm s | .exit i => if i = id then Q .norm s else Q (.exit i) s | .ret => Q .ret s) st := propext Iff.rfl
@[simp] theorem vcF_exit : vcF P (.exit id) Q st = Q (.exit id) st := propext Iff.rfl
@[simp] theorem vcF_ret : vcF P .ret Q st = Q .ret st := propext Iff.rfl
@[simp] theorem vcF_cond_true (h : st.ev x = .a (.bool true)) : vcF P (.cond x a b) Q st = vcF P a Q st := by
  unfold vcF; simp only [vc, h]; exact propext ⟨fun q => q.1 trivial, fun q => ⟨fun _ => q, fun e => by cases e⟩⟩
@[simp] theorem vcF_cond_false (h : st.ev x = .a (.bool false)) : vcF P (.cond x a b) Q st = vcF P b Q st := by
  unfold vcF; simp only [vc, h]; exact propext ⟨fun q => q.2 trivial, fun q => ⟨(fun e => by cases e), fun _ => q⟩⟩
@[simp] theorem vcItsF_nil : vcItsF P [] k st = k st := propext Iff.rfl
@[simp] theorem vcItsF_g : vcItsF P (.g i :: l) k st = IvcF P i (vcItsF P l k) st := propext Iff.rfl
@[simp] theorem vcItsF_o : vcItsF P (.o j i :: l) k st = IvcF P i (vcItsF P l k) st := propext Iff.rfl
@[simp] theorem vcItsF_gd_pos (h : gt st.sl t = .a (.bool want)) : vcItsF P (.gd j t want d i :: l) k st = IvcF P i (vcItsF P l k) (st.put (some t) (.bool want)) := by
  unfold vcItsF IvcF; simp only [vcIts, h]; exact propext ⟨fun q => q.1 trivial, fun q => ⟨fun _ => q, fun e => by cases want <;> cases e⟩⟩
@[simp] theorem vcItsF_gd_neg (h : gt st.sl t = .a (.bool (!want))) : vcItsF P (.gd j t want d i :: l) k st = vcItsF P l k ((st.put (some t) (.bool !want)).put d (.a undef)) := by
  unfold vcItsF; simp only [vcIts, h]; exact propext ⟨fun q => q.2 trivial, fun q => ⟨(fun e => by cases want <;> cases e), fun _ => q⟩⟩
@[simp] theorem vcItsF_gd_un (h : gt st.sl t = .a (.tuple #[])) : vcItsF P (.gd j t want d i :: l) k st = vcItsF P l k (st.put d (.a undef)) := by unfold vcItsF; simp only [vcIts, h]
end
/-! What each operation asks, but for calls. -/
section
variable {P : Program} {k : St → Prop} {st : St} {d : Option Nat} {x y v n m key : Operand} {l : L} {t es r len bytes : Nat} {ts ap : List Nat} {zero : List V} {parts : List (Nat × Operand)} {kd : IntKind}
@[simp] theorem F_lt : IvcF P (.lt d l) k st = (l.pre st ∧ k (st.put d (l.val st))) := propext Iff.rfl
@[simp] theorem F_frz : IvcF P (.frz t) k st = (if (gt st.sl t).ids = [] then k st else (gt st.sl t).fzP st.hp ∧ k { st with sl := up st.sl t ((gt st.sl t).fz st.hp), hp := st.hp.fz (gt st.sl t).ids }) := propext Iff.rfl
@[simp] theorem F_nilv : IvcF P (.nilv t es) k st = k { st with sl := up st.sl t (if (gt st.sl t).nilSl then .view es [] else gt st.sl t) } := propext Iff.rfl
@[simp] theorem F_keep : IvcF P (.keep ts) k st = k { st with sl := keepS st.sl ts } := propext Iff.rfl
@[simp] theorem F_wk : IvcF P .wk k st = (∃ st', Weak st st' ∧ k st') := propext Iff.rfl
@[simp] theorem F_alloc : IvcF P (.alloc d r len zero) k st = (st.hp[st.bs + r]? = some .res ∧ zero.length = len ∧ k ({ st with hp := st.hp.set (st.bs + r) (.mem false [] [zero]) }.put d (.ptr (st.bs + r) 1 0 0))) := propext Iff.rfl
@[simp] theorem F_box : IvcF P (.box d r len x) k st = (st.hp[st.bs + r]? = some .res ∧ (st.ev x).sized st.hp len ∧
      k ({ st with hp := st.hp.set (st.bs + r) (.mem false (V.idsL (st.ev x).cells) [(st.ev x).cells]) }.put d (.ptr (st.bs + r) 1 0 0))) := propext Iff.rfl
@[simp] theorem F_bsl : IvcF P (.bsl d r es len zero parts) k st = (st.hp[st.bs + r]? = some .res ∧ zero.length = es ∧ (∀ p ∈ parts, (st.ev p.2).sized st.hp es ∧ p.1 < len) ∧
      k ({ st with hp := st.hp.set (st.bs + r) (.mem false (V.idsL (fillV (List.flatten (List.replicate len zero)) (parts.map fun (p : Nat × Operand) => (p.1 * es, es, st.ev p.2)))) (chunk es len (fillV (List.flatten (List.replicate len zero)) (parts.map fun (p : Nat × Operand) => (p.1 * es, es, st.ev p.2))))) }.put d (.own (st.bs + r) es 0 len len))) := propext Iff.rfl
@[simp] theorem F_bsv : IvcF P (.bsv d es len zero parts) k st = (zero.length = es ∧ (∀ p ∈ parts, V.idsL (st.ev p.2).cells = [] ∧ (st.ev p.2).sized st.hp es ∧ p.1 < len) ∧
      k (st.put d (I.bsvV es len zero (parts.map fun (p : Nat × Operand) => (p.1 * es, es, st.ev p.2))))) := propext Iff.rfl
@[simp] theorem F_mkm : IvcF P (.mkm d r) k st = (st.hp[st.bs + r]? = some .res ∧ k ({ st with hp := st.hp.set (st.bs + r) (.map false [] []) }.put d (.mp (st.bs + r)))) := propext Iff.rfl
@[simp] theorem F_mks : IvcF P (.mks d r es bytes zero n) k st = (st.hp[st.bs + r]? = some .res ∧ zero.length = es ∧ (∃ m, st.ev n = .a (.int .i64 m)) ∧ 0 ≤ (st.ev n).num ∧ (st.ev n).num * bytes ≤ 140737488355328 ∧
      k ({ st with hp := st.hp.set (st.bs + r) (.mem false [] (List.replicate (st.ev n).num.toNat zero)) }.put d (.own (st.bs + r) es 0 (st.ev n).num.toNat (st.ev n).num.toNat))) := propext Iff.rfl
@[simp] theorem F_pan : IvcF P .pan k st = False := propext Iff.rfl
@[simp] theorem F_store : IvcF P (.store ap len x v) k st = (match st.ev x with
    | .ptr id tot i j => match st.hp.getD id .dead with
      | .mem false refs rows => (∀ t ∈ ap, (gt st.sl t).oid ≠ some id) ∧ rows.length = tot ∧ i < tot ∧ j + len ≤ (rows.getD i []).length ∧ (st.ev v).sized st.hp len ∧
          k { st with hp := st.hp.set id (.mem false (addRefs refs (V.idsL (st.ev v).cells)) (rows.set i (rowSet (rows.getD i []) j (st.ev v).cells))) }
      | _ => False
    | _ => False) := propext Iff.rfl
@[simp] theorem F_app : IvcF P (.app ap d r es bytes x y) k st = (match st.ev x with
    | .own id es' off len tot => match st.hp.getD id .dead with
      | .mem false refs rows => (∀ t ∈ ap, (gt st.sl t).oid ≠ some id) ∧ es' = es ∧ rows.length = tot ∧ off + len = tot ∧ okSl st.hp (st.ev y) ∧ (st.ev y).slEs es ∧ ((len : Int) + (st.ev y).slLen) * bytes ≤ 140737488355328 ∧
          k ({ st with hp := st.hp.set id (.mem false (addRefs refs ((st.ev y).rowIds st.hp)) (rows ++ (st.ev y).rowsOf st.hp)) }.put d (.own id es off (len + ((st.ev y).rowsOf st.hp).length) (tot + ((st.ev y).rowsOf st.hp).length)))
      | _ => False
    | .a (.slice none 0 0) => st.hp[st.bs + r]? = some .res ∧ okSl st.hp (st.ev y) ∧ (st.ev y).slEs es ∧ (st.ev y).slLen * bytes ≤ 140737488355328 ∧
          k ({ st with hp := st.hp.set (st.bs + r) (.mem false ((st.ev y).rowIds st.hp) ((st.ev y).rowsOf st.hp)) }.put d (.own (st.bs + r) es 0 ((st.ev y).rowsOf st.hp).length ((st.ev y).rowsOf st.hp).length))
    | .nul es' => es' = es ∧ st.hp[st.bs + r]? = some .res ∧ okSl st.hp (st.ev y) ∧ (st.ev y).slEs es ∧ (st.ev y).slLen * bytes ≤ 140737488355328 ∧
          (if ((st.ev y).rowsOf st.hp).isEmpty = true then k (st.put d (.nul es)) else
            k ({ st with hp := st.hp.set (st.bs + r) (.mem false ((st.ev y).rowIds st.hp) ((st.ev y).rowsOf st.hp)) }.put d (.own (st.bs + r) es 0 ((st.ev y).rowsOf st.hp).length ((st.ev y).rowsOf st.hp).length)))
    | _ => False) := propext Iff.rfl
@[simp] theorem F_cpy : IvcF P (.cpy d es x y) k st = (match st.ev x with
    | .own id es' off len tot => match st.hp.getD id .dead with
      | .mem false refs rows => es' = es ∧ rows.length = tot ∧ off + len ≤ tot ∧ okSl st.hp (st.ev y) ∧ (st.ev y).slEs es ∧ (st.ev y).slLen ≤ len ∧
          k ({ st with hp := st.hp.set id (.mem false (addRefs refs ((st.ev y).rowIds st.hp)) (rows.take off ++ (st.ev y).rowsOf st.hp ++ rows.drop (off + ((st.ev y).rowsOf st.hp).length))) }.put d (.a (.int .i64 (st.ev y).slLen)))
      | _ => False
    | _ => False) := propext Iff.rfl
@[simp] theorem F_mup : IvcF P (.mup ap kd m key v) k st = (match st.ev m with
    | .mp id => match st.hp.getD id .dead with
      | .map false refs es => (∀ t ∈ ap, (gt st.sl t).oid ≠ some id) ∧ (∀ e ∈ es, e.1.isKey kd = true) ∧ (st.ev key).isKey kd = true ∧
          k { st with hp := st.hp.set id (.map false (addRefs refs (V.idsL [st.ev v])) (putE es (st.ev key) (st.ev v))) }
      | _ => False
    | _ => False) := propext Iff.rfl

end

/-! Calls, as steps. -/
section
variable {P : Program} {k : St → Prop} {st : St} {d : Option Nat} {ap : List Nat} {f : FuncId} {xs : List Operand}
theorem gcall {r0 : V} {zs : List V} (hc : Pf P f zs r0) (ha : xs.map st.ev = zs) (hi : V.idsL zs = []) (hk : k (st.put d r0)) : IvcF P (.call d f xs) k st := call_go hc ha hi hk
theorem gcall_gen {zs : List V} {Q : V → Prop} (hc : DP P f zs Q) (ha : xs.map st.ev = zs) (hi : V.idsL zs = []) (hk : ∀ r, Q r → k (st.put d r)) : IvcF P (.call d f xs) k st := by
  subst ha; exact ⟨hi, hc.mono hk⟩
theorem gcallo {zs : List V} {r0 : V} {H0 : Heap} (hc : DC P f zs [] fun r H => r = r0 ∧ H = H0) (ha : xs.map st.ev = zs) (hi : V.idsL zs = []) (hf : okFunc P f = true)
    (hk : k ({ st with hp := st.hp ++ H0.map (O.ren (st.hp.length + ·)) }.put d (r0.ren (st.hp.length + ·)))) : IvcF P (.callo d (.func f) xs) k st := callo_go hc ha hi hf hk
theorem gcallm {zs : List V} {H0 : Heap} {r0 : V} {H1 : Heap} (hc : DC P f zs H0 fun r H => r = r0 ∧ H = H1) (sel : List Nat) (hs : clos st.hp 8 (addAll [] (V.idsL (xs.map st.ev))) = sel) (hok : OkSel st.hp sel) (ha : V.renL (idx sel) (xs.map st.ev) = zs) (hH : sub st.hp sel = H0)
    (hf : okFunc P f = true) (hk : k ({ st with hp := merge st.hp sel H1 }.put d (r0.ren (back sel st.hp.length)))) : IvcF P (.callm d (.func f) xs) k st := callm_go hc sel hs hok ha hH hf hk
theorem gcallm1 {zs : List V} {r0 : V} {o o' : O} {H1 : Heap} (hc : DC P f zs [o] fun r H => r = r0 ∧ H = o' :: H1) (p : Nat) (hi : addAll [] (V.idsL (xs.map st.ev)) = [p]) (hp : st.hp[p]? = some o) (c : o.clo) (c' : o'.clo) (c1 : ∀ q ∈ H1, q.clo)
    (ha : V.renL (idx [p]) (xs.map st.ev) = zs) (hf : okFunc P f = true) (hk : k ({ st with hp := st.hp.set p o' ++ H1 }.put d (r0.ren (back [p] st.hp.length)))) : IvcF P (.callm d (.func f) xs) k st := callm_one hc p hi hp c c' c1 ha hf hk
theorem gcalla1 {zs : List V} {r0 : V} {o o' : O} {H1 : Heap} (hc : DC P f zs [o] fun r H => r = r0 ∧ H = o' :: H1) (p : Nat) (hi : addAll [] (V.idsL (xs.map st.ev)) = [p]) (hp : st.hp[p]? = some o) (c : o.clo) (c' : o'.clo) (c1 : ∀ q ∈ H1, q.clo)
    (hap : ∀ t ∈ ap, (gt st.sl t).oid ≠ some p) (ha : V.renL (idx [p]) (xs.map st.ev) = zs) (hf : okFunc P f = true) (hk : k ({ st with hp := st.hp.set p o' ++ H1 }.put d (r0.ren (back [p] st.hp.length)))) : IvcF P (.calla ap d (.func f) xs) k st := calla_one hc p hi hp c c' c1 hap ha hf hk
end
end Go.Abs

namespace Go.Abs.G
open Go.Proofs
set_option linter.unusedVariables false
set_option linter.unusedSimpArgs false

def isR (d : List (List Int)) (x : Int) : Bool := decide (0 ≤ x) && decide (x < d.length)
def rowR (d : List (List Int)) (x : Int) : List Int := if isR d x then (d[x.toNat]?).getD [] else []
structure DOk (d : List (List Int)) : Prop where
  n : d.length ≤ 64
  l : ∀ l ∈ d, 1 ≤ l.length ∧ l.length ≤ 64
structure ROk (d : List (List Int)) (ms : List (List (List Int))) : Prop where
  d : DOk d
  k : ms.length ≤ 1000000
  m : ∀ e ∈ ms, DOk e

theorem isR_row {d : List (List Int)} {x : Int} (h : isR d x = true) : ∃ (i : Nat), x = i ∧ i < d.length ∧ ∃ hi : i < d.length, rowR d x = d[i] := by
  have h2 := h
  simp [isR] at h2
  refine ⟨x.toNat, by omega, by omega, by omega, ?_⟩
  unfold rowR
  rw [if_pos h, List.getElem?_eq_getElem (by omega)]
  rfl

section
variable {d : List (List Int)} {ms : List (List (List Int))} {M : List (List V)}

theorem isR_spec (x : Int) : DC Tryz.prog hallmarkref11_Store_is.id [.ptr 0 1 0 0, V.i x] (RS (dR d) M) (fun r H => r = .bool (isR d x) ∧ H = RS (dR d) M) := by
  refine DC.of hallmarkref11_Store_is.ok (by simp) ?_
  unfold hallmarkref11_Store_is.ir
  by_cases h : 0 ≤ x
  · simp -dsimp [hallmarkref11_Store_is.rs, isR, h]
  · simp -dsimp [hallmarkref11_Store_is.rs, isR, h]
theorem goesR_spec (kind x v y : Int) : Pf Tryz.prog hallmarkref11_Goes.id [.agg [V.i kind, V.i x, V.i v], V.i y] (.bool (goesB kind v y)) := by
  refine DC.of hallmarkref11_Goes.ok (by simp) ?_
  unfold hallmarkref11_Goes.ir goesB
  by_cases h1 : kind = 1
  · simp -dsimp [hallmarkref11_Goes.rs, h1]
  · by_cases h2 : kind = 2
    · simp -dsimp [hallmarkref11_Goes.rs, h1, h2]
    · by_cases h3 : kind = 3
      · simp -dsimp [hallmarkref11_Goes.rs, h1, h2, h3, Bool.beq_eq_decide_eq]
      · simp -dsimp [hallmarkref11_Goes.rs, h1, h2, h3]
end
end Go.Abs.G


namespace Go.Abs.G
open Go.Proofs
set_option linter.unusedVariables false
set_option linter.unusedSimpArgs false

section
variable {d : List (List Int)} {D M : List (List V)}

theorem trimR {P : Program} {f : FuncId} {xs : List V} {Q : V → Prop} {D' M' : V → List (List V)} (h : DC P f xs (RS D M) fun r H' => (∀ i ∈ r.ids, i < 3) ∧ Q r ∧ ∃ E, H' = RS (D' r) (M' r) ++ E) :
    DC P f xs (RS D M) fun r H' => Q r ∧ H' = RS (D' r) (M' r) :=
  h.trim fun x H' ⟨h1, h2, E, h3⟩ => ⟨3, by simp, h1, h2, by rw [h3]; rfl⟩

end
end Go.Abs.G


namespace Go.Abs.G
open Go.Proofs
set_option linter.unusedVariables false
set_option linter.unusedSimpArgs false

def leftR (k v : Int) (l : List Int) : List Int := l.filter fun y => !goesB k v y
def cutR (d : List (List Int)) (k x v : Int) : List (List Int) × Bool × Bool :=
  if isR d x = false then (d, false, true)
  else if leftR k v (rowR d x) = [] then (d, false, false)
  else (d.set x.toNat (leftR k v (rowR d x)), decide ((leftR k v (rowR d x)).length < (rowR d x).length), true)

theorem leftR_succ (k v : Int) {l : List Int} {i : Nat} (h : i < l.length) : leftR k v (l.take (i + 1)) = if goesB k v l[i] then leftR k v (l.take i) else leftR k v (l.take i) ++ [l[i]] := by
  unfold leftR
  rw [List.take_succ_eq_append_getElem h, List.filter_append]
  cases g : goesB k v l[i] <;> simp [g]
theorem leftR_len (k v : Int) (l : List Int) : (leftR k v l).length ≤ l.length := List.length_filter_le _ _
theorem rowR_len {d : List (List Int)} (hd : DOk d) (x : Int) : (rowR d x).length ≤ 64 := by
  cases a : isR d x
  · simp [rowR, a]
  · obtain ⟨i, rfl, hi, hi', hr⟩ := isR_row a
    rw [hr]; exact (hd.l _ (List.getElem_mem hi)).2

section
variable {d : List (List Int)} {M : List (List V)}

theorem cutR_spec (hd : DOk d) (hM : flR M) (k x v : Int) : DC Tryz.prog hallmarkref11_Store_Cut.id [.ptr 0 1 0 0, .agg [V.i k, V.i x, V.i v]] (RS (dR d) M) (fun r H => r = .tup [.bool (cutR d k x v).2.1, .bool (cutR d k x v).2.2] ∧ H = RS (dR (cutR d k x v).1) M) := by
  refine trimR (D' := fun _ => dR (cutR d k x v).1) (M' := fun _ => M) (Q := fun r => r = .tup [.bool (cutR d k x v).2.1, .bool (cutR d k x v).2.2]) ?_
  refine DC.of hallmarkref11_Store_Cut.ok (by simp) ?_
  unfold hallmarkref11_Store_Cut.ir
  obtain ⟨C, hC⟩ : ∃ C, C = O.mem false [] [[V.i k, V.i x, V.i v]] := ⟨_, rfl⟩
  refine vc_cut (At [(0, .ptr 0 1 0 0), (3, .ptr 3 1 0 0)] (RS (dR d) M ++ [C])) (by simp -dsimp [At, hC]) ?_
  try clear h
  rintro ⟨sl, hp, bs⟩ ⟨rfl, h⟩
  simp only [sls_cons, sls_one, sls_nil] at h
  refine vc_cut (fun st => isR d x = true ∧ At [(0, .ptr 0 1 0 0), (3, .ptr 3 1 0 0)] (RS (dR d) M ++ [C]) st) ?_ ?_
  · simp -dsimp [h, hC]
    refine gcallm (isR_spec x) [0, 1, 2] (by simp -dsimp [h, addAll]) RSE_sel (by simp -dsimp [h, idx]) (RSE_sub (fl_dR d) hM) (by simp) ?_
    rw [RSE_merge (fl_dR d) hM]
    cases a : isR d x
    · simp -dsimp [h, cutR, a, hallmarkref11_Store_Cut.rs]
    · simp -dsimp [h, At, hC]
  try clear h
  rintro ⟨sl, hp, bs⟩ ⟨ha, rfl, h⟩
  simp only [sls_cons, sls_one, sls_nil] at h
  obtain ⟨q, rfl, hq, hq', hr⟩ := isR_row ha
  have hlen := rowR_len hd q
  obtain ⟨l, hl⟩ : ∃ l, l = rowR d q := ⟨_, rfl⟩
  have hdq : d[q] = l := by rw [hl, hr]
  have hcut : cutR d k q v = if leftR k v l = [] then (d, false, false) else (d.set q (leftR k v l), decide ((leftR k v l).length < l.length), true) := by
    unfold cutR; rw [ha, ← hl]; simp
  rw [← hl] at hlen
  refine vc_cut (At [(0, .ptr 0 1 0 0), (3, .ptr 3 1 0 0), (6, nilS)] (RS (dR d) M ++ [C])) (by simp -dsimp [At, h]) ?_
  try clear h
  rintro ⟨sl, hp, bs⟩ ⟨rfl, h⟩
  simp only [sls_cons, sls_one, sls_nil] at h
  refine vc_cut (fun st => (leftR k v l = [] ∧ At [(0, .ptr 0 1 0 0), (3, .ptr 3 1 0 0), (6, nilS)] (RS (dR d) M ++ [C]) st) ∨ At [(0, .ptr 0 1 0 0), (3, .ptr 3 1 0 0), (6, .own 5 1 0 (leftR k v l).length (leftR k v l).length)] (RS (dR d) M ++ [C, .res, .mem false [] ((leftR k v l).map fun n => [V.i n])]) st) ?_ ?_
  · refine vc_cut (At [(0, .ptr 0 1 0 0), (3, .ptr 3 1 0 0), (6, nilS), (7, V.i 0)] (RS (dR d) M ++ [C])) (by simp -dsimp [At, h]) ?_
    try clear h
    rintro ⟨sl, hp, bs⟩ ⟨rfl, h⟩
    simp only [sls_cons, sls_one, sls_nil] at h
    refine vc_block_of (vc_upto 6 (by simp) l.length (fun i st => (leftR k v (l.take i) = [] ∧ At [(0, .ptr 0 1 0 0), (3, .ptr 3 1 0 0), (6, nilS), (7, V.i i)] (RS (dR d) M ++ [C]) st) ∨ At [(0, .ptr 0 1 0 0), (3, .ptr 3 1 0 0), (6, .own 5 1 0 (leftR k v (l.take i)).length (leftR k v (l.take i)).length), (7, V.i i)] (RS (dR d) M ++ [C, .res, .mem false [] ((leftR k v (l.take i)).map fun n => [V.i n])]) st) (.inl ⟨rfl, rfl, by simpa using h⟩) ?_)
    clear h
    rintro i ⟨sl, hp, bs⟩ hi hh
    unfold hallmarkref11_Store_Cut.b0
    have hCl : limO 6 C = C := by rw [hC]; rfl
    by_cases hil : i < l.length
    · have hw : IntKind.i64.wrap ((i : Int) + 1) = ((i + 1 : Nat) : Int) := by rw [wrap64] <;> omega
      have ho := leftR_succ k v hil
      have hol := leftR_len k v (l.take i)
      have htl : (l.take i).length = i := by simp; omega
      obtain ⟨L, hL⟩ : ∃ L, L = leftR k v (l.take i) := ⟨_, rfl⟩
      obtain ⟨L2, hL2⟩ : ∃ L2, L2 = leftR k v (l.take (i + 1)) := ⟨_, rfl⟩
      rw [← hL] at hh ho hol
      rw [← hL2] at ho ⊢
      rw [htl] at hol
      refine vc_cut (fun st => (L = [] ∧ At [(0, .ptr 0 1 0 0), (3, .ptr 3 1 0 0), (6, nilS), (7, V.i i)] (RS (dR d) M ++ [C]) st) ∨ At [(0, .ptr 0 1 0 0), (3, .ptr 3 1 0 0), (6, .own 5 1 0 L.length L.length), (7, V.i i)] (RS (dR d) M ++ [C, .res, .mem false [] (L.map fun n => [V.i n])]) st) ?_ ?_
      · rcases hh with ⟨he, rfl, h⟩ | ⟨rfl, h⟩ <;> simp only [sls_cons, sls_one] at h
        · simp -dsimp [h, At, hil, he, hC, dR, hq, hdq, vInts]
        · simp -dsimp [h, At, hil, hC, dR, hq, hdq, vInts]
      clear hh
      rintro ⟨sl, hp, bs⟩ hh
      refine vc_cut (fun st => (L2 = [] ∧ At [(0, .ptr 0 1 0 0), (3, .ptr 3 1 0 0), (6, nilS), (7, V.i i)] (RS (dR d) M ++ [C]) st) ∨ ∃ E, At [(0, .ptr 0 1 0 0), (3, .ptr 3 1 0 0), (6, .own 5 1 0 L2.length L2.length), (7, V.i i)] (RS (dR d) M ++ [C, .res, .mem false [] (L2.map fun n => [V.i n])] ++ E) st) ?_ ?_
      · rw [ho]
        refine vc_block_of ?_
        obtain ⟨g, hg⟩ : ∃ g, g = goesB k v l[i] := ⟨_, rfl⟩
        rw [← hg]
        refine vc_cut (fun st => (L = [] ∧ At [(0, .ptr 0 1 0 0), (3, .ptr 3 1 0 0), (6, nilS), (7, V.i i), (40, .bool (!g))] (RS (dR d) M ++ [C]) st) ∨ At [(0, .ptr 0 1 0 0), (3, .ptr 3 1 0 0), (6, .own 5 1 0 L.length L.length), (7, V.i i), (40, .bool (!g))] (RS (dR d) M ++ [C, .res, .mem false [] (L.map fun n => [V.i n])]) st) ?_ ?_
        · rcases hh with ⟨he, rfl, h⟩ | ⟨rfl, h⟩ <;> simp only [sls_cons, sls_one] at h
          · simp -dsimp [h, hil, hC, dR, hq, hdq, vInts]
            refine gcall (goesR_spec k q v l[i]) (by simp -dsimp [h]) (by simp -dsimp [h]) ?_
            simp -dsimp [h, At, he, ← hg, hC, dR, vInts]
          · simp -dsimp [h, hil, hC, dR, hq, hdq, vInts]
            refine gcall (goesR_spec k q v l[i]) (by simp -dsimp [h]) (by simp -dsimp [h]) ?_
            simp -dsimp [h, At, ← hg, hC, dR, vInts]
        clear hh
        rintro ⟨sl, hp, bs⟩ hh
        cases g
        · rcases hh with ⟨he, rfl, h⟩ | ⟨rfl, h⟩ <;> simp only [sls_cons, sls_one] at h
          · simp -dsimp [h, At, hil, he, hC, dR, hq, hdq, vInts]
          · simp -dsimp [h, At, hil, hC, dR, hq, hdq, vInts]
            omega
        · rcases hh with ⟨he, rfl, h⟩ | ⟨rfl, h⟩ <;> simp only [sls_cons, sls_one] at h
          · simp -dsimp [h, At, he]
          · simp -dsimp [h, At]
      clear hh
      rintro ⟨sl, hp, bs⟩ hh
      rcases hh with ⟨he, rfl, h⟩ | ⟨E, rfl, h⟩ <;> simp only [sls_cons, sls_one] at h
      · simp -dsimp [h, At, hw, hil, he, hC, RSE_take 3, limO, O.refs]
      · simp -dsimp [h, At, hw, hil, hC, RSE_take 3, limO, O.refs]
    · have hil' : i = l.length := by omega
      subst hil'
      rw [List.take_length] at hh
      rcases hh with ⟨he, rfl, h⟩ | ⟨rfl, h⟩ <;> simp only [sls_cons, sls_one] at h
      · simp -dsimp [h, At, he, hC, dR, hq, hdq, vInts]
      · simp -dsimp [h, At, hC, dR, hq, hdq, vInts]
  obtain ⟨L, hL⟩ : ∃ L, L = leftR k v l := ⟨_, rfl⟩
  rw [← hL] at hcut ⊢
  rintro ⟨sl, hp, bs⟩ hh
  rcases hh with ⟨he, rfl, h⟩ | ⟨rfl, h⟩ <;> simp only [sls_cons, sls_one] at h
  · rw [if_pos he] at hcut
    simp -dsimp [h, hcut, hallmarkref11_Store_Cut.rs]
  · by_cases he : L = []
    · rw [if_pos he] at hcut
      simp -dsimp [h, he, hcut, hallmarkref11_Store_Cut.rs]
    · rw [if_neg he] at hcut
      have t2 : List.take L.length (L.map fun n => [V.i n]) = L.map fun n => [V.i n] := List.take_of_length_le (by simp)
      have hne : ¬ (L.length : Int) = 0 := fun e => he (List.length_eq_zero_iff.1 (by omega))
      have hd1 : (dR d).set q [vInts L] = dR (d.set q L) := by unfold dR; rw [List.map_set]
      refine vc_cut (fun st => ∃ E, At [(0, .ptr 0 1 0 0), (3, .ptr 3 1 0 0), (6, vInts L)] (RS (dR d) M ++ C :: E) st) ?_ ?_
      · simp -dsimp [h, At, he, t2, vInts]
      rintro ⟨sl, hp, bs⟩ ⟨E, rfl, h⟩; simp only [sls_cons, sls_one] at h
      have lt2 : decide ((L.length : Int) < l.length) = decide (L.length < l.length) := by rw [decide_eq_decide]; omega
      refine vc_cut (At [(0, .ptr 0 1 0 0), (3, .ptr 3 1 0 0), (6, vInts L), (8, .bool (decide (L.length < l.length)))] (RS (dR d) M ++ C :: E)) (by simp -dsimp [h, At, hC, dR, hq, hdq, vInts, lt2]) ?_
      try clear h
      rintro ⟨sl, hp, bs⟩ ⟨rfl, h⟩
      simp only [sls_cons, sls_one, sls_nil] at h
      refine vc_cut (fun st => ∃ E, At [(8, .bool (decide (L.length < l.length)))] (RS (dR (d.set q L)) M ++ E) st) ?_ ?_
      · simp -dsimp [h, At, hC, hq, hdq, vInts]
        have hdr : ∀ hh, (dR d)[q]'hh = [vInts d[q]] := fun _ => by simp [dR]
        rw [hdr]
        refine ⟨Nat.le_refl _, O.mem false [] [[V.i k, V.i ↑q, V.i v]] :: E, ?_⟩
        rw [← hd1]
        exact RSE_set1 ((dR d).set q [vInts L]) (by simp)
      rintro ⟨sl, hp, bs⟩ ⟨E, rfl, h⟩; simp only [sls_cons, sls_one] at h
      simp -dsimp [h, hcut, hallmarkref11_Store_Cut.rs]
end
end Go.Abs.G


namespace Go.Abs.G
open Go.Proofs
set_option linter.unusedVariables false
set_option linter.unusedSimpArgs false

section
variable {d : List (List Int)} {M : List (List V)}

end
end Go.Abs.G


namespace Go.Abs.G
open Go.Proofs
set_option linter.unusedVariables false
set_option linter.unusedSimpArgs false

section
variable {d : List (List Int)} {M : List (List V)}

end
end Go.Abs.G


namespace Go.Abs.G
open Go.Proofs
set_option linter.unusedVariables false
set_option linter.unusedSimpArgs false
attribute [local simp] I.vc

end Go.Abs.G


namespace Go.Abs.G
open Go.Proofs
set_option linter.unusedVariables false
set_option linter.unusedSimpArgs false

section
variable {d : List (List Int)} {ms : List (List (List Int))}

end
end Go.Abs.G


namespace Go.Abs.G
open Go.Proofs
set_option linter.unusedVariables false
set_option linter.unusedSimpArgs false

section
variable {d : List (List Int)} {ms : List (List (List Int))}

end
end Go.Abs.G


namespace Go.Abs.G
open Go.Proofs
set_option linter.unusedVariables false
set_option linter.unusedSimpArgs false

def RR (d : List (List Int)) (ms : List (List (List Int))) : O := R1 (dR d) (mR ms)
theorem R1_ren {D M : List (List V)} (hD : flR D) (hM : flR M) (f : Nat → Nat) : O.ren f (R1 D M) = R1 D M := by
  have h : ∀ (D : List (List V)), (∀ f, D.map (V.renL f) = D) → Ce.renR f (flatC D) = flatC D := fun D hD => by
    have hL : ∀ r : List V, Ce.renL f (r.map Ce.v) = (V.renL f r).map Ce.v := fun r => by
      induction r with
      | nil => rfl
      | cons x r ih => simp [Ce.renL, Ce.ren, V.renL, ih]
    have hR : ∀ D : List (List V), Ce.renR f (flatC D) = flatC (D.map (V.renL f)) := fun D => by
      induction D with
      | nil => rfl
      | cons r D ih =>
        have ih' : Ce.renR f (D.map fun r => r.map Ce.v) = (D.map (V.renL f)).map fun r => r.map Ce.v := ih
        simp [flatC, Ce.renR, hL, ih']
    rw [hR, hD]
  simp [R1, O.ren, Ce.renR, Ce.renL, Ce.ren, h D hD.1, h M hM.1]
theorem RR_clo (d : List (List Int)) (ms : List (List (List Int))) : (RR d ms).clo := ⟨rfl, fun f => R1_ren (fl_dR d) (fl_mR ms) f, fun e => by cases e⟩
@[simp ↓ high] theorem RR_clo' (d : List (List Int)) (ms : List (List (List Int))) : (RR d ms).clo = True := eq_true (RR_clo d ms)
@[simp] theorem RR_lim (n : Nat) (d : List (List Int)) (ms : List (List (List Int))) : limO n (RR d ms) = RR d ms := by simp [RR, R1, limO, O.refs]
@[simp] theorem RR_refs (d : List (List Int)) (ms : List (List (List Int))) : (RR d ms).refs = [] := rfl
@[simp] theorem RR_ren (f : Nat → Nat) (d : List (List Int)) (ms : List (List (List Int))) : O.ren f (RR d ms) = RR d ms := R1_ren (fl_dR d) (fl_mR ms) f

section
variable {d : List (List Int)} {ms : List (List (List Int))} (hr : ROk d ms)
include hr
theorem cutRP (k x v : Int) : DC Tryz.prog hallmarkref11_Store_Cut.id [.ptr 0 1 0 0, .agg [V.i k, V.i x, V.i v]] [RR d ms] fun r H => r = .tup [.bool (cutR d k x v).2.1, .bool (cutR d k x v).2.2] ∧ H = [RR (cutR d k x v).1 ms] :=
  DC.packedR (fl_dR d) (fl_mR ms) (fl_dR _) (fl_mR ms) (Q := fun r => r = .tup [.bool (cutR d k x v).2.1, .bool (cutR d k x v).2.2]) (cutR_spec hr.d (fl_mR ms) k x v) (by rintro r rfl; rfl)
end
end Go.Abs.G


namespace Go.Abs.G
open Go.Proofs
set_option linter.unusedVariables false
set_option linter.unusedSimpArgs false

end Go.Abs.G


namespace Go.Abs.G
open Go.Proofs
set_option linter.unusedVariables false
set_option linter.unusedSimpArgs false

end Go.Abs.G


namespace Go.Abs.G
open Go.Proofs
set_option linter.unusedVariables false
set_option linter.unusedSimpArgs false

theorem letterR_spec (c : Nat) (hc : c < 256) : Pf Tryz.prog hallmarkref4_letter.id [.a (.int .u8 c)] (.bool (letterB c)) := by
  refine DC.of hallmarkref4_letter.ok (by simp) ?_
  unfold hallmarkref4_letter.ir
  unfold letterB
  by_cases h1 : 97 ≤ c <;> by_cases h2 : c ≤ 122 <;> by_cases h3 : 65 ≤ c <;> by_cases h4 : c ≤ 90 <;> by_cases h5 : c = 95 <;>
    first
    | omega
    | (have e1 : ((97 : Int) ≤ c) ↔ 97 ≤ c := by omega
       have e2 : ((c : Int) ≤ 122) ↔ c ≤ 122 := by omega
       have e3 : ((65 : Int) ≤ c) ↔ 65 ≤ c := by omega
       have e4 : ((c : Int) ≤ 90) ↔ c ≤ 90 := by omega
       have e5 : ((c : Int) = 95) ↔ c = 95 := by omega
       simp -dsimp [hallmarkref4_letter.rs, h1, h2, h3, h4, h5, e1, e2, e3, e4, e5])

theorem sizeR_spec (n most : Int) (h0 : 0 ≤ most) (h1 : most ≤ 9223372036854775807) : Pf Tryz.prog hallmarkref4_size.id [V.i n, V.i most] (.bool (withinB n most)) := by
  refine DC.of hallmarkref4_size.ok (by simp) ?_
  have hw : IntKind.i64.wrap (-most) = -most := wrap64 (by omega) (by omega)
  unfold hallmarkref4_size.ir withinB
  by_cases h : -most ≤ n <;> by_cases h2 : n ≤ most <;> simp -dsimp [hallmarkref4_size.rs, hw, h, h2]

theorem numberR_spec (n : Int) : Pf Tryz.prog hallmarkref4_Number.id [V.i n] (.bool (withinB n 1000000000)) := by
  refine DC.of hallmarkref4_Number.ok (by simp) ?_
  unfold hallmarkref4_Number.ir
  simp -dsimp
  refine gcall (sizeR_spec n 1000000000 (by decide) (by decide)) (by simp -dsimp) (by simp -dsimp) ?_
  simp -dsimp [hallmarkref4_Number.rs]

theorem coefR_spec (n : Int) : Pf Tryz.prog hallmarkref4_Coef.id [V.i n] (.bool (!(decide (n = 0) || !withinB n 1000000))) := by
  refine DC.of hallmarkref4_Coef.ok (by simp) ?_
  unfold hallmarkref4_Coef.ir
  by_cases h : n = 0
  · simp -dsimp [h, hallmarkref4_Coef.rs]
  · simp -dsimp [h]
    refine gcall (sizeR_spec n 1000000 (by decide) (by decide)) (by simp -dsimp) (by simp -dsimp) ?_
    simp -dsimp [hallmarkref4_Coef.rs, h]

def boundsR (lo hi : Int) : Bool := withinB lo 1000000000 && withinB hi 1000000000 && decide (lo ≤ hi) && decide (hi - lo < 64)
theorem boundsR_spec (lo hi : Int) (h1 : I64 lo) (h2 : I64 hi) : Pf Tryz.prog hallmarkref4_Bounds.id [V.i lo, V.i hi] (.bool (boundsR lo hi)) := by
  refine DC.of hallmarkref4_Bounds.ok (by simp) ?_
  unfold hallmarkref4_Bounds.ir boundsR
  simp -dsimp
  refine gcall (sizeR_spec lo 1000000000 (by decide) (by decide)) (by simp -dsimp) (by simp -dsimp) ?_
  cases a : withinB lo 1000000000
  · simp -dsimp [a, hallmarkref4_Bounds.rs]
  · simp -dsimp [a]
    refine gcall (sizeR_spec hi 1000000000 (by decide) (by decide)) (by simp -dsimp) (by simp -dsimp) ?_
    cases b : withinB hi 1000000000
    · simp -dsimp [b, hallmarkref4_Bounds.rs]
    · simp [withinB] at a b
      by_cases h : lo ≤ hi
      · have hw : IntKind.i64.wrap (hi - lo) = hi - lo := wrap64 (by omega) (by omega)
        simp -dsimp [h, hw, hallmarkref4_Bounds.rs]
      · simp -dsimp [h, hallmarkref4_Bounds.rs]

theorem manyR_spec (n : Nat) : Pf Tryz.prog hallmarkref4_many.id [V.i n] (.bool (manyB n)) := by
  refine DC.of hallmarkref4_many.ok (by simp) ?_
  unfold hallmarkref4_many.ir manyB
  by_cases h : n < 1
  · have h' : (n : Int) < 1 := by omega
    simp -dsimp [h, h', hallmarkref4_many.rs]
  · have h' : ¬ (n : Int) < 1 := by omega
    by_cases h2 : 64 < n
    · have h2' : (64 : Int) < n := by omega
      simp -dsimp [h, h', h2, h2', hallmarkref4_many.rs]
    · have h2' : ¬ (64 : Int) < n := by omega
      simp -dsimp [h, h', h2, h2', hallmarkref4_many.rs]

theorem listsR_spec (k : Int) : Pf Tryz.prog hallmarkref4_lists.id [V.i k] (.bool (listsB k)) := by
  refine DC.of hallmarkref4_lists.ok (by simp) ?_
  unfold hallmarkref4_lists.ir listsB
  by_cases h3 : k = 3
  · simp -dsimp [h3, hallmarkref4_lists.rs]
  by_cases h5 : k = 5
  · simp -dsimp [h5, hallmarkref4_lists.rs]
  by_cases h6 : k = 6
  · simp -dsimp [h6, hallmarkref4_lists.rs]
  by_cases h8 : k = 8
  · simp -dsimp [h8, hallmarkref4_lists.rs]
  simp -dsimp [h3, h5, h6, h8, hallmarkref4_lists.rs, Bool.beq_eq_decide_eq]

theorem placeR_spec (x n : Int) : Pf Tryz.prog hallmarkref4_place.id [V.i x, V.i n] (.bool (placeR x n)) := by
  refine DC.of hallmarkref4_place.ok (by simp) ?_
  unfold hallmarkref4_place.ir placeR
  by_cases h : 0 ≤ x <;> simp -dsimp [h, hallmarkref4_place.rs]
end Go.Abs.G


namespace Go.Abs.G
open Go.Proofs
set_option linter.unusedVariables false
set_option linter.unusedSimpArgs false

def foS (c : Con) : Bool := decide (c.kind = 1) || decide (c.kind = 7)
def fo1 (c : Con) : Bool := decide (c.kind ≠ 1) && decide (c.kind ≠ 9) && decide (c.op ≠ 0)
def fo2 (c : Con) : Bool := fo1 c || (!foS c && decide (0 < c.terms.length))
def fo3 (c : Con) : Bool := fo2 c || (!foS c && decide (c.kind ≠ 2) && decide (c.kind ≠ 9) && decide (c.k ≠ 0))
def fo4 (c : Con) : Bool := fo3 c || (decide (c.kind ≠ 2) && decide (c.kind ≠ 4) && decide (c.kind ≠ 7) && decide (c.x ≠ 0))
def fo5 (c : Con) : Bool := fo4 c || ((foS c || (listsB c.kind && decide (c.kind ≠ 5) && decide (c.kind ≠ 6))) && decide (c.y ≠ 0))
def fo6 (c : Con) : Bool := fo5 c || (!listsB c.kind && decide (0 < c.xs.length))
def fo7 (c : Con) : Bool := fo6 c || (decide (c.kind ≠ 4) && decide (0 < c.table.length))
def fo0 (c : Con) : Bool := (decide (c.kind ≠ 9) && decide (c.v ≠ 0)) || (decide (c.kind ≠ 8) && decide (0 < c.rows.length))
theorem foreign_fo (c : Con) : foreignB c = (fo0 c || fo7 c) := by
  unfold foreignB fo7 fo6 fo5 fo4 fo3 fo2 fo1 fo0 foS
  split
  · rename_i h; rw [h]; rfl
  · rename_i h; rw [Bool.not_eq_true] at h; rw [h]; rfl

theorem posN (n : Nat) : ((0 : Int) < n) ↔ 0 < n := by omega

theorem foreignR_spec (c : Con) : Pf Tryz.prog hallmarkref4_foreign.id [.agg c.cells] (.bool (foreignB c)) := by
  refine DC.of hallmarkref4_foreign.ok (by simp) ?_
  unfold hallmarkref4_foreign.ir
  refine vc_cut (At [(1, .ptr 0 1 0 0)] [.mem false [] [c.cells]]) (by simp -dsimp [At, Con.cells, vTerms, vInts, vIntss]) ?_
  try clear h
  rintro ⟨sl, hp, bs⟩ ⟨rfl, h⟩
  simp only [sls_cons, sls_one, sls_nil] at h
  refine vc_cut (At [(1, .ptr 0 1 0 0), (3, V.i c.kind)] [.mem false [] [c.cells]]) (by simp -dsimp [h, At, Con.cells, vTerms, vInts, vIntss]) ?_
  try clear h
  rintro ⟨sl, hp, bs⟩ ⟨rfl, h⟩
  simp only [sls_cons, sls_one, sls_nil] at h
  refine vc_cut (At [(1, .ptr 0 1 0 0), (3, V.i c.kind), (4, .bool (foS c))] [.mem false [] [c.cells]]) ?_ ?_
  · by_cases k : c.kind = 1
    · simp -dsimp [h, At, k, foS]
    · simp -dsimp [h, At, k, foS, Bool.beq_eq_decide_eq]
  try clear h
  rintro ⟨sl, hp, bs⟩ ⟨rfl, h⟩
  simp only [sls_cons, sls_one, sls_nil] at h
  refine vc_cut (At [(1, .ptr 0 1 0 0), (3, V.i c.kind), (4, .bool (foS c)), (5, .bool (listsB c.kind))] [.mem false [] [c.cells]]) ?_ ?_
  · simp -dsimp [h]
    refine gcall (listsR_spec c.kind) (by simp -dsimp [h]) (by simp -dsimp [h]) ?_
    simp -dsimp [h, At]
  try clear h
  rintro ⟨sl, hp, bs⟩ ⟨rfl, h⟩
  simp only [sls_cons, sls_one, sls_nil] at h
  obtain ⟨L, hL⟩ : ∃ L, L = listsB c.kind := ⟨_, rfl⟩
  obtain ⟨S, hS⟩ : ∃ S, S = foS c := ⟨_, rfl⟩
  rw [← hL, ← hS] at h
  have l0 := posN
  refine vc_cut (fun st => fo0 c = false ∧ At [(1, .ptr 0 1 0 0), (3, V.i c.kind), (4, .bool S), (5, .bool L)] [.mem false [] [c.cells]] st) ?_ ?_
  · by_cases k9 : c.kind = 9
    · by_cases r : 0 < c.rows.length
      · simp -dsimp [h, At, Con.cells, vTerms, vInts, vIntss, k9, r, l0, fo0, foreign_fo, hallmarkref4_foreign.rs]
      · simp -dsimp [h, At, Con.cells, vTerms, vInts, vIntss, k9, r, l0, fo0]
    · by_cases v : c.v = 0
      · by_cases k8 : c.kind = 8
        · simp -dsimp [h, At, Con.cells, vTerms, vInts, vIntss, k8, v, l0, fo0]
        · by_cases r : 0 < c.rows.length
          · simp -dsimp [h, At, Con.cells, vTerms, vInts, vIntss, k9, k8, v, r, l0, fo0, foreign_fo, hallmarkref4_foreign.rs]
          · simp -dsimp [h, At, Con.cells, vTerms, vInts, vIntss, k9, k8, v, r, l0, fo0]
      · simp -dsimp [h, At, Con.cells, vTerms, vInts, vIntss, k9, v, l0, fo0, foreign_fo, hallmarkref4_foreign.rs]
  try clear h
  rintro ⟨sl, hp, bs⟩ ⟨f0, rfl, h⟩
  simp only [sls_cons, sls_one, sls_nil] at h
  have hF : foreignB c = fo7 c := by rw [foreign_fo, f0]; rfl
  rw [hF]
  refine vc_cut (At [(2, .bool (fo7 c))] [.mem false [] [c.cells]]) ?_ ?_
  rotate_left
  · try clear h
    rintro ⟨sl, hp, bs⟩ ⟨rfl, h⟩
    simp only [sls_cons, sls_one, sls_nil] at h
    simp -dsimp [h, hallmarkref4_foreign.rs]
  refine vc_reg_of (vcIts_cut 12 (At [(1, .ptr 0 1 0 0), (3, V.i c.kind), (4, .bool S), (5, .bool L), (44, .bool (fo1 c))] [.mem false [] [c.cells]]) ?_ ?_)
  · by_cases k : c.kind = 1
    · simp -dsimp [h, At, k, fo1]
    · by_cases k9 : c.kind = 9
      · simp -dsimp [h, At, k9, fo1]
      · by_cases o : c.op = 0
        · simp -dsimp [h, At, k, k9, fo1, o, Con.cells, vTerms, vInts, vIntss]
        · simp -dsimp [h, At, k, k9, fo1, o, Con.cells, vTerms, vInts, vIntss]
  try clear h
  rintro ⟨sl, hp, bs⟩ ⟨rfl, h⟩
  simp only [sls_cons, sls_one, sls_nil] at h
  refine vcIts_cut 10 (At [(1, .ptr 0 1 0 0), (3, V.i c.kind), (4, .bool S), (5, .bool L), (54, .bool (fo2 c))] [.mem false [] [c.cells]]) ?_ ?_
  · cases e : fo1 c
    · cases S
      · by_cases t : 0 < c.terms.length
        · simp -dsimp [h, At, e, fo2, ← hS, t, l0, Con.cells, vTerms, vInts, vIntss]
        · simp -dsimp [h, At, e, fo2, ← hS, t, l0, Con.cells, vTerms, vInts, vIntss]
      · simp -dsimp [h, At, e, fo2, ← hS]
    · simp -dsimp [h, At, e, fo2]
  try clear h
  rintro ⟨sl, hp, bs⟩ ⟨rfl, h⟩
  simp only [sls_cons, sls_one, sls_nil] at h
  refine vcIts_cut 17 (At [(1, .ptr 0 1 0 0), (3, V.i c.kind), (4, .bool S), (5, .bool L), (71, .bool (fo3 c))] [.mem false [] [c.cells]]) ?_ ?_
  · cases e : fo2 c
    · cases S
      · by_cases k2 : c.kind = 2
        · simp -dsimp [h, At, e, fo3, ← hS, k2]
        · by_cases k9 : c.kind = 9
          · simp -dsimp [h, At, e, fo3, ← hS, k9]
          · by_cases t : c.k = 0
            · simp -dsimp [h, At, e, fo3, ← hS, k2, k9, t, Con.cells, vTerms, vInts, vIntss]
            · simp -dsimp [h, At, e, fo3, ← hS, k2, k9, t, Con.cells, vTerms, vInts, vIntss]
      · simp -dsimp [h, At, e, fo3, ← hS]
    · simp -dsimp [h, At, e, fo3]
  try clear h
  rintro ⟨sl, hp, bs⟩ ⟨rfl, h⟩
  simp only [sls_cons, sls_one, sls_nil] at h
  refine vcIts_cut 17 (At [(1, .ptr 0 1 0 0), (3, V.i c.kind), (4, .bool S), (5, .bool L), (88, .bool (fo4 c))] [.mem false [] [c.cells]]) ?_ ?_
  · cases e : fo3 c
    · by_cases k2 : c.kind = 2
      · simp -dsimp [h, At, e, fo4, k2]
      · by_cases k4 : c.kind = 4
        · simp -dsimp [h, At, e, fo4, k4]
        · by_cases k7 : c.kind = 7
          · simp -dsimp [h, At, e, fo4, k7]
          · by_cases t : c.x = 0
            · simp -dsimp [h, At, e, fo4, k2, k4, k7, t, Con.cells, vTerms, vInts, vIntss]
            · simp -dsimp [h, At, e, fo4, k2, k4, k7, t, Con.cells, vTerms, vInts, vIntss]
    · simp -dsimp [h, At, e, fo4]
  try clear h
  rintro ⟨sl, hp, bs⟩ ⟨rfl, h⟩
  simp only [sls_cons, sls_one, sls_nil] at h
  refine vcIts_cut 19 (At [(1, .ptr 0 1 0 0), (3, V.i c.kind), (4, .bool S), (5, .bool L), (107, .bool (fo5 c))] [.mem false [] [c.cells]]) ?_ ?_
  · cases e : fo4 c
    · by_cases t : c.y = 0
      · cases S
        · cases L
          · simp -dsimp [h, At, e, fo5, ← hS, ← hL, t, Con.cells, vTerms, vInts, vIntss]
          · by_cases k5 : c.kind = 5
            · simp -dsimp [h, At, e, fo5, ← hS, ← hL, t, k5, Con.cells, vTerms, vInts, vIntss]
            · by_cases k6 : c.kind = 6
              · simp -dsimp [h, At, e, fo5, ← hS, ← hL, t, k6, Con.cells, vTerms, vInts, vIntss]
              · simp -dsimp [h, At, e, fo5, ← hS, ← hL, t, k5, k6, Con.cells, vTerms, vInts, vIntss]
        · simp -dsimp [h, At, e, fo5, ← hS, ← hL, t, Con.cells, vTerms, vInts, vIntss]
      · cases S
        · cases L
          · simp -dsimp [h, At, e, fo5, ← hS, ← hL, t, Con.cells, vTerms, vInts, vIntss]
          · by_cases k5 : c.kind = 5
            · have hL' : listsB 5 = true := by rw [← k5, ← hL]
              simp -dsimp [h, At, e, fo5, ← hS, hL', t, k5, Con.cells, vTerms, vInts, vIntss]
            · by_cases k6 : c.kind = 6
              · have hL' : listsB 6 = true := by rw [← k6, ← hL]
                simp -dsimp [h, At, e, fo5, ← hS, hL', t, k6, Con.cells, vTerms, vInts, vIntss]
              · simp -dsimp [h, At, e, fo5, ← hS, ← hL, t, k5, k6, Con.cells, vTerms, vInts, vIntss]
        · simp -dsimp [h, At, e, fo5, ← hS, ← hL, t, Con.cells, vTerms, vInts, vIntss]
    · simp -dsimp [h, At, e, fo5]
  try clear h
  rintro ⟨sl, hp, bs⟩ ⟨rfl, h⟩
  simp only [sls_cons, sls_one, sls_nil] at h
  refine vcIts_cut 10 (At [(1, .ptr 0 1 0 0), (3, V.i c.kind), (117, .bool (fo6 c))] [.mem false [] [c.cells]]) ?_ ?_
  · cases e : fo5 c
    · cases L
      · by_cases t : 0 < c.xs.length
        · simp -dsimp [h, At, e, fo6, ← hL, t, l0, Con.cells, vTerms, vInts, vIntss]
        · simp -dsimp [h, At, e, fo6, ← hL, t, l0, Con.cells, vTerms, vInts, vIntss]
      · simp -dsimp [h, At, e, fo6, ← hL]
    · simp -dsimp [h, At, e, fo6]
  try clear h
  rintro ⟨sl, hp, bs⟩ ⟨rfl, h⟩
  simp only [sls_cons, sls_one, sls_nil] at h
  cases e : fo6 c
  · by_cases k4 : c.kind = 4
    · simp -dsimp [h, At, e, fo7, k4]
    · by_cases t : 0 < c.table.length
      · simp -dsimp [h, At, e, fo7, k4, t, l0, Con.cells, vTerms, vInts, vIntss]
      · simp -dsimp [h, At, e, fo7, k4, t, l0, Con.cells, vTerms, vInts, vIntss]
  · simp -dsimp [h, At, e, fo7]
end Go.Abs.G


namespace Go.Abs.G
open Go.Proofs
set_option linter.unusedVariables false
set_option linter.unusedSimpArgs false

theorem anyTake1 {α : Type} {p : α → Bool} {l : List α} {i : Nat} (h : i < l.length) : (l.take (i + 1)).any p = ((l.take i).any p || p l[i]) := by
  rw [List.take_succ_eq_append_getElem h, List.any_append]; simp
theorem any_of_at {α : Type} {p : α → Bool} {l : List α} {i : Nat} (h : i < l.length) (hp : p l[i] = true) : l.any p = true := List.any_eq_true.2 ⟨_, List.getElem_mem h, hp⟩

theorem termsR_spec (l : List Term) (n : Int) (hl : l.length ≤ maxLen) : Pf Tryz.prog hallmarkref4_terms.id [vTerms l, V.i n] (V.i (termsR l n)) := by
  have hM : (maxLen : Int) ≤ 9223372036854775807 := by decide
  refine DC.of hallmarkref4_terms.ok (by simp) ?_
  unfold hallmarkref4_terms.ir
  refine vc_cut (At [(0, vTerms l), (1, V.i n)] []) (by simp -dsimp [At, vTerms]) ?_
  try clear h
  rintro ⟨sl, hp, bs⟩ ⟨rfl, h⟩
  simp only [sls_cons, sls_one, sls_nil] at h
  refine vc_cut (fun st => badVarB n l = false ∧ At [(0, vTerms l)] [] st) ?_ ?_
  · refine vc_cut (At [(0, vTerms l), (1, V.i n), (5, V.i 0)] []) (by simp -dsimp [h, At]) ?_
    try clear h
    rintro ⟨sl, hp, bs⟩ ⟨rfl, h⟩
    simp only [sls_cons, sls_one, sls_nil] at h
    refine vc_block_of (vc_upto 0 (by simp) l.length (fun i st => badVarB n (l.take i) = false ∧ At [(0, vTerms l), (1, V.i n), (5, V.i i)] [] st) ⟨rfl, rfl, by simpa using h⟩ ?_)
    clear h
    rintro i ⟨sl, hp, bs⟩ hi ⟨hx, rfl, h⟩
    simp only [sls_cons, sls_one] at h
    unfold hallmarkref4_terms.b0
    by_cases hil : i < l.length
    · have hw : IntKind.i64.wrap ((i : Int) + 1) = ((i + 1 : Nat) : Int) := by rw [wrap64] <;> omega
      refine vc_cut (At [(0, vTerms l), (1, V.i n), (5, V.i i)] []) (by simp -dsimp [h, At, hil, vTerms]) ?_
      try clear h
      rintro ⟨sl, hp, bs⟩ ⟨rfl, h⟩
      simp only [sls_cons, sls_one, sls_nil] at h
      obtain ⟨t, ht⟩ : ∃ t, t = l[i] := ⟨_, rfl⟩
      refine vc_cut (fun st => (decide (t.x < 0) || decide (n ≤ t.x)) = false ∧ At [(0, vTerms l), (1, V.i n), (5, V.i i)] [] st) ?_ ?_
      · refine vc_block_of ?_
        have hbad : (decide (t.x < 0) || decide (n ≤ t.x)) = true → termsR l n = 44 := fun e => by
          have : badVarB n l = true := any_of_at hil (by rw [← ht]; exact e)
          unfold termsR; rw [this]; rfl
        by_cases a : t.x < 0
        · simp -dsimp [h, At, hil, vTerms, ← ht, Term.cells, a, hallmarkref4_terms.rs, hbad (by simp [a])]
        · by_cases b : n ≤ t.x
          · simp -dsimp [h, At, hil, vTerms, ← ht, Term.cells, a, b, hallmarkref4_terms.rs, hbad (by simp [b])]
          · simp -dsimp [h, At, hil, vTerms, ← ht, Term.cells, a, b]
      try clear h
      rintro ⟨sl, hp, bs⟩ ⟨hb, rfl, h⟩
      simp only [sls_cons, sls_one, sls_nil] at h
      have hx2 : badVarB n (l.take (i + 1)) = false := by
        unfold badVarB at hx ⊢
        rw [anyTake1 hil, hx, ← ht, hb]; rfl
      simp -dsimp [h, At, hw, hil, vTerms, hx2]
    · have hil' : i = l.length := by omega
      subst hil'
      rw [List.take_length] at hx
      simp -dsimp [h, At, vTerms, hx]
  try clear h
  rintro ⟨sl, hp, bs⟩ ⟨hb, rfl, h⟩
  simp only [sls_cons, sls_one, sls_nil] at h
  have hT : termsR l n = if badCoefB l then 45 else 0 := by unfold termsR; rw [hb]; rfl
  rw [hT]
  refine vc_cut (fun st => badCoefB l = false ∧ At [] [] st) ?_ ?_
  · refine vc_cut (At [(0, vTerms l), (6, V.i 0)] []) (by simp -dsimp [h, At]) ?_
    try clear h
    rintro ⟨sl, hp, bs⟩ ⟨rfl, h⟩
    simp only [sls_cons, sls_one, sls_nil] at h
    refine vc_block_of (vc_upto 0 (by simp) l.length (fun i st => badCoefB (l.take i) = false ∧ At [(0, vTerms l), (6, V.i i)] [] st) ⟨rfl, rfl, by simpa using h⟩ ?_)
    clear h
    rintro i ⟨sl, hp, bs⟩ hi ⟨hx, rfl, h⟩
    simp only [sls_cons, sls_one] at h
    unfold hallmarkref4_terms.b1
    by_cases hil : i < l.length
    · have hw : IntKind.i64.wrap ((i : Int) + 1) = ((i + 1 : Nat) : Int) := by rw [wrap64] <;> omega
      refine vc_cut (At [(0, vTerms l), (6, V.i i)] []) (by simp -dsimp [h, At, hil, vTerms]) ?_
      try clear h
      rintro ⟨sl, hp, bs⟩ ⟨rfl, h⟩
      simp only [sls_cons, sls_one, sls_nil] at h
      obtain ⟨t, ht⟩ : ∃ t, t = l[i] := ⟨_, rfl⟩
      refine vc_cut (fun st => (decide (t.c = 0) || !withinB t.c 1000000) = false ∧ At [(0, vTerms l), (6, V.i i)] [] st) ?_ ?_
      · refine vc_block_of ?_
        have hbad : (decide (t.c = 0) || !withinB t.c 1000000) = true → badCoefB l = true := fun e => any_of_at hil (by rw [← ht]; exact e)
        simp -dsimp [h, hil, vTerms, ← ht, Term.cells]
        refine gcall (coefR_spec t.c) (by simp -dsimp [h]) (by simp -dsimp [h]) ?_
        cases a : (decide (t.c = 0) || !withinB t.c 1000000)
        · simp -dsimp [h, At, a, vTerms]
        · simp -dsimp [h, a, hbad a, hallmarkref4_terms.rs]
      try clear h
      rintro ⟨sl, hp, bs⟩ ⟨hb, rfl, h⟩
      simp only [sls_cons, sls_one, sls_nil] at h
      have hx2 : badCoefB (l.take (i + 1)) = false := by
        unfold badCoefB at hx ⊢
        rw [anyTake1 hil, hx, ← ht, hb]; rfl
      simp -dsimp [h, At, hw, hil, vTerms, hx2]
    · have hil' : i = l.length := by omega
      subst hil'
      rw [List.take_length] at hx
      simp -dsimp [h, At, vTerms, hx]
  try clear h
  rintro ⟨sl, hp, bs⟩ ⟨hb, rfl, h⟩
  simp -dsimp [hallmarkref4_terms.rs, hb]

def oddB (k : Nat) (l : List (List Int)) : Bool := l.any fun r => decide (r.length ≠ k)
theorem rowsR_spec (c : Con) (hc : c.rows.length ≤ maxLen) : Pf Tryz.prog hallmarkref4_rows.id [.agg c.cells] (.bool (rowsR c)) := by
  have hM : (maxLen : Int) ≤ 9223372036854775807 := by decide
  refine DC.of hallmarkref4_rows.ok (by simp) ?_
  unfold hallmarkref4_rows.ir
  refine vc_cut (At [(1, .ptr 0 1 0 0)] [.mem false [] [c.cells]]) (by simp -dsimp [At, Con.cells, vTerms, vInts, vIntss]) ?_
  try clear h
  rintro ⟨sl, hp, bs⟩ ⟨rfl, h⟩
  simp only [sls_cons, sls_one, sls_nil] at h
  refine vc_cut (fun st => (decide (8 < c.xs.length) || manyB c.rows.length) = false ∧ At [(1, .ptr 0 1 0 0)] [.mem false [] [c.cells]] st) ?_ ?_
  · by_cases h8 : 8 < c.xs.length
    · have h8' : (8 : Int) < c.xs.length := by omega
      have hr : rowsR c = false := by simp [rowsR, h8]
      simp -dsimp [h, Con.cells, vTerms, vInts, vIntss, h8', hallmarkref4_rows.rs, hr]
    · have h8' : ¬ (8 : Int) < c.xs.length := by omega
      simp -dsimp [h, Con.cells, vTerms, vInts, vIntss, h8']
      refine gcall (manyR_spec c.rows.length) (by simp -dsimp [h]) (by simp -dsimp [h]) ?_
      cases a : manyB c.rows.length
      · simp -dsimp [h, At, h8, Con.cells, vTerms, vInts, vIntss]
      · have hr : rowsR c = false := by simp [rowsR, a]
        simp -dsimp [h, hr, hallmarkref4_rows.rs]
  try clear h
  rintro ⟨sl, hp, bs⟩ ⟨hb, rfl, h⟩
  simp only [sls_cons, sls_one, sls_nil] at h
  have hR : rowsR c = !(oddB c.xs.length c.rows) := by
    have e : ∀ l : List (List Int), (l.all fun r => decide (r.length = c.xs.length)) = !(oddB c.xs.length l) := fun l => by
      unfold oddB
      induction l with
      | nil => rfl
      | cons a l ih => rw [List.all_cons, List.any_cons, ih]; by_cases e : a.length = c.xs.length <;> simp [e]
    unfold rowsR; rw [hb, e]; rfl
  rw [hR]
  refine vc_cut (fun st => (oddB c.xs.length c.rows) = false ∧ At [] [.mem false [] [c.cells]] st) ?_ ?_
  · refine vc_cut (At [(1, .ptr 0 1 0 0), (3, V.i 0)] [.mem false [] [c.cells]]) (by simp -dsimp [h, At]) ?_
    try clear h
    rintro ⟨sl, hp, bs⟩ ⟨rfl, h⟩
    simp only [sls_cons, sls_one, sls_nil] at h
    refine vc_block_of (vc_upto 1 (by simp) c.rows.length (fun i st => oddB c.xs.length (c.rows.take i) = false ∧ At [(1, .ptr 0 1 0 0), (3, V.i i)] [.mem false [] [c.cells]] st) ⟨rfl, rfl, by simpa using h⟩ ?_)
    clear h
    rintro i ⟨sl, hp, bs⟩ hi ⟨hx, rfl, h⟩
    simp only [sls_cons, sls_one] at h
    unfold hallmarkref4_rows.b0
    by_cases hil : i < c.rows.length
    · have hw : IntKind.i64.wrap ((i : Int) + 1) = ((i + 1 : Nat) : Int) := by rw [wrap64] <;> omega
      refine vc_cut (At [(1, .ptr 0 1 0 0), (3, V.i i)] [.mem false [] [c.cells]]) (by simp -dsimp [h, At, hil, Con.cells, vTerms, vInts, vIntss]) ?_
      try clear h
      rintro ⟨sl, hp, bs⟩ ⟨rfl, h⟩
      simp only [sls_cons, sls_one, sls_nil] at h
      obtain ⟨t, ht⟩ : ∃ t, t = c.rows[i] := ⟨_, rfl⟩
      refine vc_cut (fun st => (decide (t.length ≠ c.xs.length)) = false ∧ At [(1, .ptr 0 1 0 0), (3, V.i i)] [.mem false [] [c.cells]] st) ?_ ?_
      · refine vc_block_of ?_
        have hbad : t.length ≠ c.xs.length → (oddB c.xs.length c.rows) = true := fun e => any_of_at hil (by rw [← ht]; simp [e])
        have ei : ((t.length : Int) = c.xs.length) ↔ t.length = c.xs.length := by omega
        by_cases a : t.length = c.xs.length
        · simp -dsimp [h, At, hil, ← ht, Con.cells, vTerms, vInts, vIntss, a, ei]
        · simp -dsimp [h, At, hil, ← ht, Con.cells, vTerms, vInts, vIntss, a, ei, hallmarkref4_rows.rs, hbad a]
      try clear h
      rintro ⟨sl, hp, bs⟩ ⟨hb, rfl, h⟩
      simp only [sls_cons, sls_one, sls_nil] at h
      have hx2 : oddB c.xs.length (c.rows.take (i + 1)) = false := by
        unfold oddB at hx ⊢; rw [anyTake1 hil, hx, ← ht, hb]; rfl
      simp -dsimp [h, At, hw, hil, hx2, Con.cells, vTerms, vInts, vIntss]
    · have hil' : i = c.rows.length := by omega
      subst hil'
      rw [List.take_length] at hx
      simp -dsimp [h, At, hx, Con.cells, vTerms, vInts, vIntss]
  try clear h
  rintro ⟨sl, hp, bs⟩ ⟨hb, rfl, h⟩
  simp -dsimp [hallmarkref4_rows.rs, hb]

theorem placesR_spec (c : Con) (n : Int) (hc : c.xs.length ≤ maxLen) : Pf Tryz.prog hallmarkref4_places.id [.agg c.cells, V.i n] (.bool (placesR c n)) := by
  have hM : (maxLen : Int) ≤ 9223372036854775807 := by decide
  refine DC.of hallmarkref4_places.ok (by simp) ?_
  unfold hallmarkref4_places.ir
  refine vc_cut (At [(1, V.i n), (2, .ptr 0 1 0 0)] [.mem false [] [c.cells]]) (by simp -dsimp [At, Con.cells, vTerms, vInts, vIntss]) ?_
  try clear h
  rintro ⟨sl, hp, bs⟩ ⟨rfl, h⟩
  simp only [sls_cons, sls_one, sls_nil] at h
  refine vc_cut (At [(1, V.i n), (2, .ptr 0 1 0 0), (5, .bool (placeR c.x n && placeR c.y n))] [.mem false [] [c.cells]]) ?_ ?_
  · simp -dsimp [h, Con.cells, vTerms, vInts, vIntss]
    refine gcall (placeR_spec c.x n) (by simp -dsimp [h]) (by simp -dsimp [h]) ?_
    cases a : placeR c.x n
    · simp -dsimp [h, At, Con.cells, vTerms, vInts, vIntss]
    · simp -dsimp [h, Con.cells, vTerms, vInts, vIntss]
      refine gcall (placeR_spec c.y n) (by simp -dsimp [h]) (by simp -dsimp [h]) ?_
      simp -dsimp [h, At, Con.cells, vTerms, vInts, vIntss]
  try clear h
  rintro ⟨sl, hp, bs⟩ ⟨rfl, h⟩
  simp only [sls_cons, sls_one, sls_nil] at h
  have hA : ∀ (b : Bool) (i : Nat) (hi : i < c.xs.length), (b && (c.xs.take (i + 1)).all fun x => placeR x n) = ((b && (c.xs.take i).all fun x => placeR x n) && placeR c.xs[i] n) := fun b i hi => by
    rw [List.take_succ_eq_append_getElem hi, List.all_append]; simp [Bool.and_assoc]
  refine vc_cut (At [(5, .bool (placesR c n))] [.mem false [] [c.cells]]) ?_ ?_
  · refine vc_cut (At [(1, V.i n), (2, .ptr 0 1 0 0), (5, .bool (placeR c.x n && placeR c.y n)), (6, V.i 0)] [.mem false [] [c.cells]]) (by simp -dsimp [h, At]) ?_
    try clear h
    rintro ⟨sl, hp, bs⟩ ⟨rfl, h⟩
    simp only [sls_cons, sls_one, sls_nil] at h
    refine vc_block_of (vc_upto 1 (by simp) c.xs.length (fun i st => At [(1, V.i n), (2, .ptr 0 1 0 0), (5, .bool ((placeR c.x n && placeR c.y n) && (c.xs.take i).all fun x => placeR x n)), (6, V.i i)] [.mem false [] [c.cells]] st) ⟨rfl, by simpa using h⟩ ?_)
    clear h
    rintro i ⟨sl, hp, bs⟩ hi ⟨rfl, h⟩
    simp only [sls_cons, sls_one] at h
    unfold hallmarkref4_places.b0
    by_cases hil : i < c.xs.length
    · have hw : IntKind.i64.wrap ((i : Int) + 1) = ((i + 1 : Nat) : Int) := by rw [wrap64] <;> omega
      rw [hA _ i hil]
      cases a : ((placeR c.x n && placeR c.y n) && (c.xs.take i).all fun x => placeR x n)
      · rw [a] at h
        simp -dsimp [h, At, hil, hw, Con.cells, vTerms, vInts, vIntss]
      · rw [a] at h
        simp -dsimp [h, hil, Con.cells, vTerms, vInts, vIntss]
        refine gcall (placeR_spec c.xs[i] n) (by simp -dsimp [h]) (by simp -dsimp [h]) ?_
        simp -dsimp [h, At, hil, hw, Con.cells, vTerms, vInts, vIntss]
    · have hil' : i = c.xs.length := by omega
      subst hil'
      rw [List.take_length] at h
      simp -dsimp [h, At, placesR, Con.cells, vTerms, vInts, vIntss]
  try clear h
  rintro ⟨sl, hp, bs⟩ ⟨rfl, h⟩
  simp only [sls_cons, sls_one, sls_nil] at h
  simp -dsimp [h, hallmarkref4_places.rs]
end Go.Abs.G

