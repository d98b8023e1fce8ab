import Derived.Test.YtkfpoacloidepaaAbsV
set_option linter.all false
/- Regions whose order Go leaves open (2). -/
namespace Go.Abs
set_option linter.unusedVariables false

def It.light : It → Bool
  | .o _ (.lt _ _) => true
  | .gd _ _ _ d (.lt d' _) => decide (d = d')
  | _ => false
def It.dst : It → Option Nat
  | .o _ (.lt d _) => d
  | .gd _ _ _ d _ => d
  | _ => none
def It.hops : It → List Nat
  | .o _ (.lt _ l) => tmpsOf l.hops
  | .gd _ _ _ _ (.lt _ l) => tmpsOf l.hops
  | _ => []
def It.isLd : It → Bool
  | .o _ (.lt _ l) => l.isLd
  | .gd _ _ _ _ (.lt _ l) => l.isLd
  | _ => false

/-- May the light item y be taken behind x? -/
def indep (y x : It) : Bool :=
  y.light && x.free && y.dst.toList.all (fun d => !(x.rd.contains d) && !(x.wr.contains d)) && x.wr.all (fun t => !(y.rd.contains t)) && (x.i.quiet || (x.i.isSt && !y.isLd) || y.hops.all (x.i.ap.contains ·))

theorem hops_tmp {l : L} {st : St} {bl bc : Nat → Prop} (h : ∀ t ∈ tmpsOf l.hops, ∀ k, (gt st.sl t).oid = some k → ¬ bl k ∧ (l.isLd = true → ¬ bc k)) : ∀ x ∈ l.hops, ∀ k, (st.ev x).oid = some k → ¬ bl k ∧ (l.isLd = true → ¬ bc k) := by
  intro x hx k hk
  cases x with
  | tmp t => exact h t (tmpsOf_mem.2 hx) k hk
  | const v =>
    have hk : (cv v).oid = some k := hk
    unfold cv at hk
    split at hk
    · split at hk <;> cases hk
    · cases hk
  | global g => cases hk
  | func f => cases hk

theorem tmps_ev {l : List Operand} {st st' : St} (h : ∀ t ∈ tmpsOf l, gt st'.sl t = gt st.sl t) : ∀ x ∈ l, st'.ev x = st.ev x := by
  intro x hx
  cases x with
  | tmp t => exact h t (tmpsOf_mem.2 hx)
  | _ => rfl

theorem light_step {P : Program} {y : It} (hl : y.light = true) {K : St → Prop} {st : St} (h : vcIt P y K st) :
    ∃ v, K (st.put y.dst v) ∧ ∀ (st' : St), (∀ t ∈ y.rd, gt st'.sl t = gt st.sl t) → (∃ bl bc : Nat → Prop, hle bl bc st.hp st'.hp ∧ ∀ t ∈ y.hops, ∀ k, (gt st.sl t).oid = some k → ¬ bl k ∧ (y.isLd = true → ¬ bc k)) → ∀ K' : St → Prop, K' (st'.put y.dst v) → vcIt P y K' st' := by
  unfold It.light at hl
  split at hl
  · next j d l =>
    obtain ⟨h1, h2⟩ : l.pre st ∧ K (st.put d (l.val st)) := h
    refine ⟨l.val st, h2, fun st' hr hh K' hk => ?_⟩
    obtain ⟨bl, bc, hh1, hh2⟩ := hh
    obtain ⟨g1, g2⟩ := L.stable (tmps_ev hr) hh1 (hops_tmp hh2) h1
    exact ⟨g1, by rw [g2]; exact hk⟩
  · next j s want d d' l =>
    obtain rfl : d = d' := by simpa using hl
    simp only [vcIt, vcIts] at h
    split at h
    · next b e =>
      by_cases hb : b = want
      · subst hb
        obtain ⟨h1, h2⟩ : l.pre _ ∧ K _ := h.1 rfl
        rw [upGuard e] at h1 h2
        refine ⟨l.val st, h2, fun st' hr hh K' hk => ?_⟩
        have e' : gt st'.sl s = .a (.bool b) := (hr s (by simp [It.rd])).trans e
        obtain ⟨bl, bc, hh1, hh2⟩ := hh
        obtain ⟨g1, g2⟩ := L.stable (st' := st') (tmps_ev fun t ht => hr t (by simp only [It.rd, List.mem_cons]; exact .inr ht)) hh1 (hops_tmp hh2) h1
        simp only [vcIt, vcIts, e']
        refine ⟨fun _ => ?_, fun hn => by cases b <;> simp at hn⟩
        rw [upGuard e']
        exact ⟨g1, by rw [g2]; exact hk⟩
      · have hb' : b = !want := by cases b <;> cases want <;> simp_all
        have h2 := h.2 hb'
        have e0 := e
        rw [hb'] at e0
        rw [upGuard e0] at h2
        refine ⟨.a undef, h2, fun st' hr hh K' hk => ?_⟩
        have e' : gt st'.sl s = .a (.bool b) := (hr s (by simp [It.rd])).trans e
        simp only [vcIt, vcIts, e']
        refine ⟨fun hn => (hb hn).elim, fun _ => ?_⟩
        rw [hb'] at e'
        rw [upGuard e']
        exact hk
    · next t e =>
      refine ⟨.a undef, h, fun st' hr hh K' hk => ?_⟩
      have e' : gt st'.sl s = .a (.tuple t) := (hr s (by simp [It.rd])).trans e
      simp only [vcIt, vcIts, e']
      exact hk
    · exact h.elim
  · cases hl

theorem swap {P : Program} {y x : It} (hi : indep y x = true) {K : St → Prop} {st : St} (h : vcIt P y (vcIt P x K) st) : vcIt P x (vcIt P y K) st := by
  simp only [indep, Bool.and_eq_true] at hi
  obtain ⟨⟨⟨⟨h1, h2⟩, h3⟩, h4⟩, h5⟩ := hi
  obtain ⟨v, hx, hy⟩ := light_step h1 h
  have hx' : vcIt P x (fun s => K (s.put y.dst v)) st := by
    cases hd : y.dst with
    | none => rw [hd] at hx; exact hx
    | some d =>
      rw [hd] at hx h3
      simp only [Option.toList_some, List.all_cons, List.all_nil, Bool.and_true, Bool.and_eq_true, Bool.not_eq_true', List.contains_eq_mem, decide_eq_false_iff_not] at h3
      exact vcIt_put h2 h3.1 h3.2 hx
  refine vcIt_mono (vcIt_out h2 hx') fun s hs => hy s (fun t ht => hs.1.1 t fun e => ?_) ?_ K hs.2
  · have := List.all_eq_true.1 h4 t e
    simp [ht] at this
  · obtain ⟨bl, bc, g1, g2, g3, g4⟩ := hs.1.2
    refine ⟨bl, bc, g1, fun t ht k hk => ?_⟩
    simp only [Bool.or_eq_true, Bool.and_eq_true, Bool.not_eq_true', List.all_eq_true, List.contains_eq_mem, decide_eq_true_eq] at h5
    rcases h5 with (h5 | h5) | h5
    · exact ⟨(g2 h5 k).1, fun _ => (g2 h5 k).2⟩
    · exact ⟨g3 h5.1 k, fun e => by rw [h5.2] at e; cases e⟩
    · exact ⟨(g4 t (h5 t ht) k hk).1, fun _ => (g4 t (h5 t ht) k hk).2⟩

/-- Fewer slots to keep away from. -/
def I.dropA (D : List Nat) : I → I
  | .store ap n x v => .store (ap.filter fun t => !D.contains t) n x v
  | .app ap d r es b x y => .app (ap.filter fun t => !D.contains t) d r es b x y
  | .mup ap kd m k v => .mup (ap.filter fun t => !D.contains t) kd m k v
  | i => i
def It.dropA (D : List Nat) : It → It
  | .g i => .g (i.dropA D)
  | .o j i => .o j (i.dropA D)
  | .gd j s want d i => .gd j s want d (i.dropA D)

theorem I.vc_drop {P : Program} {i : I} {D : List Nat} {K : St → Prop} {st : St} (h : i.vc P K st) : (i.dropA D).vc P K st := by
  cases i <;> first | exact h | skip
  · next ap n x v =>
    simp only [I.vc, I.dropA] at h ⊢
    split at h
    · split at h
      · exact ⟨fun t ht => h.1 t ((List.mem_filter.1 ht).1), h.2⟩
      · exact h.elim
    · exact h.elim
  · next ap d r es b x y =>
    simp only [I.vc, I.dropA] at h ⊢
    split at h
    · split at h
      · exact ⟨fun t ht => h.1 t ((List.mem_filter.1 ht).1), h.2⟩
      · exact h.elim
    · exact h
    · exact h.elim
  · next ap kd m key v =>
    simp only [I.vc, I.dropA] at h ⊢
    split at h
    · split at h
      · exact ⟨fun t ht => h.1 t (List.mem_filter.1 ht).1, h.2⟩
      · exact h.elim
    · exact h.elim

theorem vcIt_drop {P : Program} {x : It} {D : List Nat} {K : St → Prop} {st : St} (h : vcIt P x K st) : vcIt P (x.dropA D) K st := by
  cases x with
  | g i => exact I.vc_drop (i := i) h
  | o j i => exact I.vc_drop (i := i) h
  | gd j s want d i =>
    simp only [vcIt, vcIts, It.dropA] at h ⊢
    split at h
    · exact ⟨fun e => I.vc_drop (h.1 e), h.2⟩
    · exact h
    · exact h.elim

theorem I.dropA_dropA {i : I} {D E : List Nat} : (i.dropA D).dropA E = i.dropA (E ++ D) := by
  cases i <;> simp [I.dropA, List.filter_filter]

theorem It.dropA_dropA {x : It} {D E : List Nat} : (x.dropA D).dropA E = x.dropA (E ++ D) := by
  cases x <;> simp [It.dropA, I.dropA_dropA]

/-- A new variable y, and what may be done ahead of it as well. -/
def swA (y x : It) : Bool :=
  match y, x with
  | .o _ (.alloc (some d) r _ _), .o _ (.alloc (some d') r' _ _) => decide (d ≠ d') && decide (r ≠ r')
  | .o _ (.alloc (some d) _ _ _), .o _ (.call d' _ xs) => !(tmpsOf xs).contains d && !d'.toList.contains d
  | .o _ (.alloc (some d) _ _ _), .o _ (.callv d' fv xs) => !(tmpsOf (fv :: xs)).contains d && !d'.toList.contains d
  | _, _ => false

theorem get_set_ne {H : Heap} {i j : Nat} {o : O} (h : i ≠ j) : (H.set i o)[j]? = H[j]? := by
  rw [List.getElem?_set]; simp [h]

theorem swapA {P : Program} {y x : It} (hi : swA y x = true) {K : St → Prop} {st : St} (h : vcIt P y (vcIt P x K) st) : vcIt P x (vcIt P y K) st := by
  unfold swA at hi
  split at hi
  · next d r n z j' d' r' n' z' =>
    simp only [Bool.and_eq_true, decide_eq_true_eq] at hi
    obtain ⟨h1, h2, h3, h4, h5⟩ := h
    change (St.put _ _ _).hp[_]? = _ at h3
    rw [put_hp] at h3
    change (st.hp.set _ _)[st.bs + r']? = _ at h3
    rw [get_set_ne (by omega)] at h3
    refine ⟨h3, h4, ?_, h2, ?_⟩
    · change (St.put _ _ _).hp[_]? = _
      rw [put_hp]
      change (st.hp.set _ _)[st.bs + r]? = _
      rw [get_set_ne (by omega)]; exact h1
    · have : ({ ({ st with hp := st.hp.set (st.bs + r) (.mem false [] [z]) } : St).put (some d) (.ptr (st.bs + r) 1 0 0) with hp := (({ st with hp := st.hp.set (st.bs + r) (.mem false [] [z]) } : St).put (some d) (.ptr (st.bs + r) 1 0 0)).hp.set (st.bs + r') (.mem false [] [z']) } : St).put (some d') (.ptr (st.bs + r') 1 0 0)
          = ({ ({ st with hp := st.hp.set (st.bs + r') (.mem false [] [z']) } : St).put (some d') (.ptr (st.bs + r') 1 0 0) with hp := (({ st with hp := st.hp.set (st.bs + r') (.mem false [] [z']) } : St).put (some d') (.ptr (st.bs + r') 1 0 0)).hp.set (st.bs + r) (.mem false [] [z]) } : St).put (some d) (.ptr (st.bs + r) 1 0 0) := by
        simp only [St.put, St.mk.injEq, and_true]
        refine ⟨?_, ?_⟩
        · funext t; simp only [up]; by_cases a1 : d' = t <;> by_cases a2 : d = t <;> simp_all
        · exact List.set_comm _ _ (by omega)
      exact this ▸ h5
  · next d r n z j' d' f xs =>
    simp only [Bool.and_eq_true, Bool.not_eq_true', List.contains_eq_mem, decide_eq_false_iff_not] at hi
    obtain ⟨h1, h2, h3, h4⟩ := h
    have hm : xs.map (({ st with hp := st.hp.set (st.bs + r) (.mem false [] [z]) } : St).put (some d) (.ptr (st.bs + r) 1 0 0)).ev = xs.map st.ev :=
      List.map_congr_left fun x hx => by rw [ev_put fun e => hi.1 (tmpsOf_mem.2 (e ▸ hx)), ev_hp]
    rw [hm] at h3 h4
    refine ⟨h3, DP.mono h4 fun r' hr' => ?_⟩
    refine ⟨by rw [put_hp]; cases d' <;> exact h1, h2, ?_⟩
    have hr'' : K _ := hr'
    rw [put_comm hi.2] at hr''
    cases d' <;> exact hr''
  · next d r n z j' d' fv xs =>
    simp only [Bool.and_eq_true, Bool.not_eq_true', List.contains_eq_mem, decide_eq_false_iff_not] at hi
    obtain ⟨h1, h2, h3⟩ := h
    have ht : ∀ x ∈ fv :: xs, x ≠ .tmp d := fun x hx e => hi.1 (tmpsOf_mem.2 (e ▸ hx))
    have hm : xs.map (({ st with hp := st.hp.set (st.bs + r) (.mem false [] [z]) } : St).put (some d) (.ptr (st.bs + r) 1 0 0)).ev = xs.map st.ev :=
      List.map_congr_left fun x hx => by rw [ev_put (ht x (by simp [hx])), ev_hp]
    have hf : (({ st with hp := st.hp.set (st.bs + r) (.mem false [] [z]) } : St).put (some d) (.ptr (st.bs + r) 1 0 0)).ev fv = st.ev fv := by rw [ev_put (ht fv (by simp)), ev_hp]
    change I.vc P (.callv d' fv xs) K _ at h3
    simp only [I.vc] at h3
    rw [hm, hf] at h3
    show I.vc P (.callv d' fv xs) _ _
    simp only [I.vc]
    split at h3
    · next ex =>
      refine ⟨h3.1, h3.2.1, DP.mono h3.2.2 fun r' hr' => ?_⟩
      refine ⟨by rw [put_hp]; cases d' <;> exact h1, h2, ?_⟩
      have hr'' : K _ := hr'
      rw [put_comm hi.2] at hr''
      cases d' <;> exact hr''
    · exact h3.elim
  · cases hi

/-! A number still kept free. -/
def resd (r : Nat) (st : St) : Prop := st.hp[st.bs + r]? = some .res

def I.rn : I → Option Nat
  | .alloc _ r _ _ | .box _ r _ _ | .bsl _ r _ _ _ _ | .app _ _ r _ _ _ _ | .mkm _ r | .rng _ r _ | .nilo _ _ r => some r
  | _ => none
def It.resn : It → List Nat
  | .o _ (.alloc _ r _ _) => [r]
  | _ => []

theorem resd_put {r : Nat} {st : St} {d : Option Nat} {v : V} (h : resd r st) : resd r (st.put d v) := by
  cases d <;> exact h

theorem resd_set {r id : Nat} {st : St} {o o' : O} {d : Option Nat} {v : V} (h : resd r st) (hid : st.hp[id]? = some o) (ho : o ≠ .res) : resd r ({ st with hp := st.hp.set id o' }.put d v) := by
  have : resd r { st with hp := st.hp.set id o' } := by
    unfold resd at h ⊢
    show (st.hp.set id o')[st.bs + r]? = _
    rw [get_set_ne]
    · exact h
    · intro e; subst e; rw [hid] at h; injection h with h; exact ho h
  exact resd_put this

theorem resd_new {r r' : Nat} {st : St} {o' : O} {d : Option Nat} {v : V} (h : resd r st) (hr : some r' ≠ some r) : resd r ({ st with hp := st.hp.set (st.bs + r') o' }.put d v) := by
  have : resd r { st with hp := st.hp.set (st.bs + r') o' } := by
    unfold resd at h ⊢
    show (st.hp.set (st.bs + r') o')[st.bs + r]? = _
    rw [get_set_ne fun e => hr (by simp; omega)]
    exact h
  exact resd_put this

theorem I.vc_keep {P : Program} {i : I} {K : St → Prop} {st : St} {r : Nat} (hr : i.rn ≠ some r) (hs : resd r st) (h : i.vc P K st) : i.vc P (fun s => resd r s ∧ K s) st := by
  cases i with
  | lt d l => exact ⟨h.1, resd_put hs, h.2⟩
  | frz t =>
    simp only [I.vc] at h ⊢
    split
    · next e => rw [if_pos e] at h; exact ⟨hs, h⟩
    · next e =>
      rw [if_neg e] at h
      refine ⟨h.1, ?_, h.2⟩
      unfold resd at hs ⊢
      show (st.hp.fz _)[st.bs + r]? = _
      rw [Heap.fz_get, hs]
      simp only [Option.map_some, Option.some.injEq]
      split <;> rfl
  | nilv t es => exact ⟨hs, h⟩
  | nilo t es r' =>
    simp only [I.vc] at h ⊢
    split at h
    · exact ⟨h.1, resd_new (d := none) (v := .any) hs hr, h.2⟩
    · exact ⟨hs, h⟩
  | keep ts => exact ⟨hs, h⟩
  | store ap n x v =>
    simp only [I.vc] at h ⊢
    split at h
    · split at h
      · next hgd => exact ⟨h.1, h.2.1, h.2.2.1, h.2.2.2.1, h.2.2.2.2.1, resd_set (d := none) (v := .any) hs (get_of hgd (by simp)) (by simp), h.2.2.2.2.2⟩
      · exact h.elim
    · exact h.elim
  | alloc d r' n zero => exact ⟨h.1, h.2.1, resd_new hs hr, h.2.2⟩
  | box d r' n x => exact ⟨h.1, h.2.1, resd_new hs hr, h.2.2⟩
  | bsl d r' es n zero parts => exact ⟨h.1, h.2.1, h.2.2.1, resd_new hs hr, h.2.2.2⟩
  | app ap d r' es bytes x y =>
    simp only [I.vc] at h ⊢
    split at h
    · split at h
      · next hgd =>
        obtain ⟨h0, h1, h2, h3, h4, h5, h6, h7⟩ := h
        exact ⟨h0, h1, h2, h3, h4, h5, h6, resd_set hs (get_of hgd (by simp)) (by simp), h7⟩
      · exact h.elim
    · obtain ⟨h1, h2, h3, h4, h5⟩ := h
      exact ⟨h1, h2, h3, h4, resd_new hs hr, h5⟩
    · exact h.elim
  | call d f xs => exact ⟨h.1, DP.mono h.2 fun r' hr' => ⟨resd_put hs, hr'⟩⟩
  | callv d fv xs =>
    simp only [I.vc] at h ⊢
    split at h
    · exact ⟨h.1, h.2.1, DP.mono h.2.2 fun r' hr' => ⟨resd_put hs, hr'⟩⟩
    · exact h.elim
  | callb d fv xs =>
    simp only [I.vc] at h ⊢
    split at h
    · exact ⟨h.1, h.2.1, DP.mono h.2.2 fun r' hr' => ⟨hr'.1, resd_put hs, hr'.2⟩⟩
    · exact h.elim
  | callo d fv xs =>
    simp only [I.vc] at h ⊢
    split at h
    · refine ⟨h.1, h.2.1, DC.mono h.2.2 fun r' H' hr' => ⟨resd_put ?_, hr'⟩⟩
      unfold resd at hs ⊢
      show (st.hp ++ _)[st.bs + r]? = _
      rw [List.getElem?_append_left (lt_of_get hs)]
      exact hs
    · exact h.elim
  | callm d fv xs =>
    simp only [I.vc] at h ⊢
    split at h
    · refine ⟨h.1, h.2.1, DC.mono h.2.2 fun r' H' hr' => ⟨resd_put ?_, hr'⟩⟩
      have hsel := h.2.1
      generalize clos st.hp 8 _ = sel at hsel ⊢
      unfold resd at hs ⊢
      show (merge st.hp sel H')[st.bs + r]? = _
      rw [merge_out (lt_of_get hs)]
      · exact hs
      · intro hm
        exact hsel.nres _ hm (getD_some hs)
    · exact h.elim
  | mkm d r' => exact ⟨h.1, resd_new hs hr, h.2⟩
  | mup ap kd m key v =>
    simp only [I.vc] at h ⊢
    split at h
    · split at h
      · next hgd => exact ⟨h.1, h.2.1, h.2.2.1, resd_set (d := none) (v := .any) hs (get_of hgd (by simp)) (by simp), h.2.2.2⟩
      · exact h.elim
    · exact h.elim
  | rng d r' x => exact ⟨h.1, h.2.1, resd_new hs hr, h.2.2⟩
  | nxt d x =>
    simp only [I.vc] at h ⊢
    split at h
    · split at h
      · next hgd =>
        split at h
        · next hlt => rw [if_pos hlt]; exact ⟨resd_set hs (get_of hgd (by simp)) (by simp), h⟩
        · next hlt => rw [if_neg hlt]; exact ⟨resd_put hs, h⟩
      · exact h.elim
    · exact h.elim

theorem resd_guard {st : St} {s r : Nat} {y : V} (h : resd r st) : resd r { st with sl := up st.sl s y } := h

theorem vcIt_keep {P : Program} {it : It} {K : St → Prop} {st : St} {r : Nat} (hr : it.i.rn ≠ some r) (hs : resd r st) (h : vcIt P it K st) : vcIt P it (fun s => resd r s ∧ K s) st := by
  cases it with
  | g i => exact I.vc_keep (i := i) hr hs h
  | o j i => exact I.vc_keep (i := i) hr hs h
  | gd j s want d i =>
    simp only [vcIt, vcIts] at h ⊢
    split at h
    · exact ⟨fun e => I.vc_keep hr (resd_guard hs) (h.1 e), fun e => ⟨resd_put (resd_guard hs), h.2 e⟩⟩
    · exact ⟨resd_put hs, h⟩
    · exact h.elim

/-- A call y, and a new variable x that may be made ahead of it as well. -/
def swC (y x : It) : Bool :=
  match y, x with
  | .o _ (.call d _ xs), .o _ (.alloc (some d') _ n zero) => !(tmpsOf xs).contains d' && !d.toList.contains d' && decide (zero.length = n)
  | .o _ (.callv d fv xs), .o _ (.alloc (some d') _ n zero) => !(tmpsOf (fv :: xs)).contains d' && !d.toList.contains d' && decide (zero.length = n)
  | _, _ => false

theorem swapC {P : Program} {y x : It} (hi : swC y x = true) {K : St → Prop} {st : St} (hres : ∀ r ∈ x.resn, resd r st) (h : vcIt P y (vcIt P x K) st) : vcIt P x (vcIt P y K) st := by
  unfold swC at hi
  split at hi
  · next d f xs j' d' r n z =>
    simp only [Bool.and_eq_true, Bool.not_eq_true', List.contains_eq_mem, decide_eq_false_iff_not, decide_eq_true_eq] at hi
    obtain ⟨h1, h2⟩ := h
    have hm : xs.map (({ st with hp := st.hp.set (st.bs + r) (.mem false [] [z]) } : St).put (some d') (.ptr (st.bs + r) 1 0 0)).ev = xs.map st.ev :=
      List.map_congr_left fun x hx => by rw [ev_put fun e => hi.1.1 (tmpsOf_mem.2 (e ▸ hx)), ev_hp]
    refine ⟨hres r (by simp [It.resn]), hi.2, ?_, ?_⟩
    · rw [hm]; exact h1
    · rw [hm]
      refine DP.mono h2 fun r' hr' => ?_
      obtain ⟨_, _, hr'⟩ := hr'
      show K _
      rw [put_comm hi.1.2]
      cases d <;> exact hr'
  · next d fv xs j' d' r n z =>
    simp only [Bool.and_eq_true, Bool.not_eq_true', List.contains_eq_mem, decide_eq_false_iff_not, decide_eq_true_eq] at hi
    have ht : ∀ x ∈ fv :: xs, x ≠ .tmp d' := fun x hx e => hi.1.1 (tmpsOf_mem.2 (e ▸ hx))
    have hm : xs.map (({ st with hp := st.hp.set (st.bs + r) (.mem false [] [z]) } : St).put (some d') (.ptr (st.bs + r) 1 0 0)).ev = xs.map st.ev :=
      List.map_congr_left fun x hx => by rw [ev_put (ht x (by simp [hx])), ev_hp]
    have hf : (({ st with hp := st.hp.set (st.bs + r) (.mem false [] [z]) } : St).put (some d') (.ptr (st.bs + r) 1 0 0)).ev fv = st.ev fv := by rw [ev_put (ht fv (by simp)), ev_hp]
    change I.vc P (.callv d fv xs) _ _ at h
    refine ⟨hres r (by simp [It.resn]), hi.2, ?_⟩
    show I.vc P (.callv d fv xs) K _
    simp only [I.vc] at h ⊢
    rw [hm, hf]
    split at h
    · refine ⟨h.1, h.2.1, DP.mono h.2.2 fun r' hr' => ?_⟩
      obtain ⟨_, _, hr'⟩ := hr'
      show K _
      rw [put_comm hi.1.2]
      cases d <;> exact hr'
    · exact h.elim
  · cases hi

/-- The numbers that the items of a group need, free. -/
def allres (Y : List It) (st : St) : Prop := ∀ y ∈ Y, ∀ r ∈ y.resn, resd r st
/-- Does no item of X use up a number that one of Y needs? -/
def norn (X Y : List It) : Bool := X.all fun x => Y.all fun y => y.resn.all fun r => decide (x.i.rn ≠ some r)

theorem allres_keep {P : Program} {it : It} {K : St → Prop} {st : St} : ∀ (Y : List Nat), (∀ r ∈ Y, it.i.rn ≠ some r) → (∀ r ∈ Y, resd r st) → vcIt P it K st → vcIt P it (fun s => (∀ r ∈ Y, resd r s) ∧ K s) st := by
  intro Y
  induction Y with
  | nil => intro _ _ h; exact vcIt_mono h fun s hs => ⟨fun r hr => by simp at hr, hs⟩
  | cons r Y ih =>
    intro hr hs h
    have h1 := ih (fun r' h' => hr r' (by simp [h'])) (fun r' h' => hs r' (by simp [h'])) h
    refine vcIt_mono (vcIt_keep (hr r (by simp)) (hs r (by simp)) h1) fun s hs => ⟨fun r' h' => ?_, hs.2.2⟩
    rcases List.mem_cons.1 h' with rfl | h'
    · exact hs.1
    · exact hs.2.1 r' h'

theorem keepX {P : Program} {it : It} {Y : List It} {K : St → Prop} {st : St} (hn : norn [it] Y = true) (hs : allres Y st) (h : vcIt P it K st) : vcIt P it (fun s => allres Y s ∧ K s) st := by
  simp only [norn, List.all_cons, List.all_nil, Bool.and_true, List.all_eq_true, decide_eq_true_eq] at hn
  have := allres_keep (P := P) (K := K) (Y.flatMap It.resn) (fun r hr => by
    obtain ⟨y, hy, hr⟩ := List.mem_flatMap.1 hr
    exact hn y hy r hr) (fun r hr => by
    obtain ⟨y, hy, hr⟩ := List.mem_flatMap.1 hr
    exact hs y hy r hr) h
  exact vcIt_mono this fun s hs => ⟨fun y hy r hr => hs.1 r (List.mem_flatMap.2 ⟨y, hy, hr⟩), hs.2⟩

theorem keepXs {P : Program} {Y : List It} {K : St → Prop} : ∀ {X : List It} {st : St}, norn X Y = true → allres Y st → vcIts P X K st → vcIts P X (fun s => allres Y s ∧ K s) st := by
  intro X
  induction X with
  | nil => intro st _ hs h; exact ⟨hs, h⟩
  | cons x X ih =>
    intro st hn hs h
    have hn' : norn [x] Y = true ∧ norn X Y = true := by simp only [norn, List.all_cons, List.all_nil, Bool.and_true, Bool.and_eq_true] at hn ⊢; exact hn
    rw [vcIts_cons] at h ⊢
    exact vcIt_mono (keepX hn'.1 hs h) fun s hs => ih hn'.2 hs.1 hs.2

/-- May y be taken behind x, x then keeping away from fewer? -/
def indep' (y x : It) : Bool := indep y (x.dropA y.dst.toList) || (swA y x && decide (y.dst = none))

theorem swap' {P : Program} {y x : It} (hi : indep' y x = true) {K : St → Prop} {st : St} (h : vcIt P y (vcIt P x K) st) : vcIt P (x.dropA y.dst.toList) (vcIt P y K) st := by
  simp only [indep', Bool.or_eq_true, Bool.and_eq_true] at hi
  rcases hi with hi | hi
  · exact swap hi (vcIt_mono h fun s hs => vcIt_drop hs)
  · exact vcIt_drop (swapA hi.1 h)

/-- May y be taken behind the group X? -/
def passes (y : It) (X : List It) : Prop := (∀ x ∈ X, indep' y x = true) ∨ ∃ x, X = [x] ∧ swC y x = true
def passesB (y : It) (X : List It) : Bool := X.all (indep' y) || (match X with | [x] => swC y x | _ => false)

theorem passes_of {y : It} {X : List It} (h : passesB y X = true) : passes y X := by
  unfold passesB at h
  simp only [Bool.or_eq_true] at h
  rcases h with h | h
  · exact .inl (List.all_eq_true.1 h)
  · split at h
    · exact .inr ⟨_, rfl, h⟩
    · cases h

theorem swC_dst {y x : It} (h : swC y x = true) : y.dst = none ∧ ∀ D, x.dropA D = x := by
  unfold swC at h
  split at h <;> first | exact ⟨rfl, fun _ => rfl⟩ | cases h

theorem swapL {P : Program} {y : It} {K : St → Prop} : ∀ {X : List It} {st : St}, (∀ x ∈ X, indep' y x = true) → vcIt P y (vcIts P X K) st → vcIts P (X.map (·.dropA y.dst.toList)) (vcIt P y K) st := by
  intro X
  induction X with
  | nil => intro st _ h; exact h
  | cons x X ih =>
    intro st hX h
    have h' : vcIt P y (vcIt P x (vcIts P X K)) st := vcIt_mono h fun s hs => by rw [vcIts_cons] at hs; exact hs
    rw [List.map_cons, vcIts_cons]
    exact vcIt_mono (swap' (hX x (by simp)) h') fun s hs => ih (fun z hz => hX z (by simp [hz])) hs

abbrev GL := List (Nat × List It)
def flat (c : GL) : List It := c.flatMap (·.2)
def dsts (c : GL) : List Nat := (flat c).flatMap fun y => y.dst.toList

def okPair (ops : Array Oper) (dep : Nat → Nat → Bool) (y x : Nat × List It) : Prop :=
  (dep x.1 y.1 = true ∨ ∃ it, y.2 = [it] ∧ passes it x.2) ∧ (norn y.2 x.2 = true ∧ norn x.2 y.2 = true) ∧ ∀ it ∈ y.2, ∀ x' ∈ x.2, ∀ d ∈ x'.dst.toList, d ∉ it.hops

theorem dropA_wr {D : List Nat} {x : It} : (x.dropA D).wr = x.wr := by cases x with | g i => cases i <;> rfl | o j i => cases i <;> rfl | gd j s want d i => cases i <;> rfl
theorem dropA_free {D : List Nat} {x : It} : (x.dropA D).free = x.free := by cases x with | g i => cases i <;> rfl | o j i => cases i <;> rfl | gd j s want d i => cases i <;> rfl
theorem dropA_quiet {D : List Nat} {x : It} : (x.dropA D).i.quiet = x.i.quiet := by cases x with | g i => cases i <;> rfl | o j i => cases i <;> rfl | gd j s want d i => cases i <;> rfl
theorem dropA_isSt {D : List Nat} {x : It} : (x.dropA D).i.isSt = x.i.isSt := by cases x with | g i => cases i <;> rfl | o j i => cases i <;> rfl | gd j s want d i => cases i <;> rfl
theorem dropA_ap {D : List Nat} {x : It} : (x.dropA D).i.ap = x.i.ap.filter fun t => !D.contains t := by cases x with | g i => cases i <;> rfl | o j i => cases i <;> rfl | gd j s want d i => cases i <;> rfl
theorem I.dropA_rd {D : List Nat} {i : I} {t : Nat} (h : t ∈ (i.dropA D).rd) : t ∈ i.rd := by
  cases i <;> first | exact h | skip
  all_goals
    simp only [I.dropA, I.rd, List.mem_append] at h ⊢
    rcases h with h | h
    · exact .inl ((List.mem_filter.1 h).1)
    · exact .inr h
theorem dropA_rd {D : List Nat} {x : It} {t : Nat} (h : t ∈ (x.dropA D).rd) : t ∈ x.rd := by
  cases x with
  | g i => exact I.dropA_rd (i := i) h
  | o j i => exact I.dropA_rd (i := i) h
  | gd j s want d i =>
    simp only [It.dropA, It.rd, List.mem_cons] at h ⊢
    rcases h with h | h
    · exact .inl h
    · exact .inr (I.dropA_rd h)
theorem dropA_comm {D E : List Nat} {x : It} : (x.dropA D).dropA E = (x.dropA E).dropA D := by
  have : ∀ i : I, (i.dropA D).dropA E = (i.dropA E).dropA D := fun i => by
    cases i <;> simp only [I.dropA, List.filter_filter, Bool.and_comm]
  cases x <;> simp only [It.dropA, this]

theorem swA_drop {D : List Nat} {y x : It} (h : swA y x = true) : swA y (x.dropA D) = true := by
  unfold swA at h
  split at h <;> first | exact h | cases h

theorem indep_drop {D : List Nat} {y x : It} (h : indep' y x = true) (hd : ∀ d ∈ D, d ∉ y.hops) : indep' y (x.dropA D) = true := by
  simp only [indep', Bool.or_eq_true, Bool.and_eq_true] at h ⊢
  rcases h with h | h
  · refine .inl ?_
    rw [dropA_comm]
    generalize x.dropA y.dst.toList = x at h
    simp only [indep, Bool.and_eq_true] at h ⊢
    obtain ⟨⟨⟨⟨h1, h2⟩, h3⟩, h4⟩, h5⟩ := h
    rw [dropA_free, dropA_wr, dropA_quiet, dropA_isSt, dropA_ap]
    refine ⟨⟨⟨⟨h1, h2⟩, ?_⟩, h4⟩, ?_⟩
    · rw [List.all_eq_true] at h3 ⊢
      intro d hdm
      have := h3 d hdm
      simp only [Bool.and_eq_true, Bool.not_eq_true', List.contains_eq_mem, decide_eq_false_iff_not] at this ⊢
      exact ⟨fun e => this.1 (dropA_rd e), this.2⟩
    · simp only [Bool.or_eq_true, List.all_eq_true, List.contains_eq_mem, decide_eq_true_eq] at h5 ⊢
      rcases h5 with h5 | h5
      · exact .inl h5
      · refine .inr fun t ht => List.mem_filter.2 ⟨h5 t ht, ?_⟩
        simp only [Bool.not_eq_true', decide_eq_false_iff_not]
        exact fun e => hd t e ht
  · exact .inr ⟨swA_drop h.1, h.2⟩

theorem dropA_rn {D : List Nat} {x : It} : (x.dropA D).i.rn = x.i.rn := by cases x with | g i => cases i <;> rfl | o j i => cases i <;> rfl | gd j s want d i => cases i <;> rfl
theorem dropA_resn {D : List Nat} {x : It} : (x.dropA D).resn = x.resn := by cases x with | g i => cases i <;> rfl | o j i => cases i <;> rfl | gd j s want d i => cases i <;> rfl

theorem norn_drop {D : List Nat} {X Y : List It} (h : norn X Y = true) : norn (X.map (·.dropA D)) Y = true := by
  simp only [norn, List.all_map, List.all_eq_true, Function.comp_apply, decide_eq_true_eq, dropA_rn] at h ⊢
  exact h

theorem bring {P : Program} {K : St → Prop} {X : List It} {c2 : List It} : ∀ {c1 : GL} {st : St}, (∀ y ∈ c1, norn y.2 X = true ∧ ∃ it, y.2 = [it] ∧ passes it X) →
    c1.Pairwise (fun y x => ∀ it ∈ y.2, ∀ x' ∈ x.2, ∀ d ∈ x'.dst.toList, d ∉ it.hops) → allres X st →
    vcIts P (flat c1 ++ (X ++ c2)) K st → vcIts P (X.map (·.dropA (dsts c1)) ++ (flat c1 ++ c2)) K st := by
  intro c1
  induction c1 with
  | nil =>
    intro st _ _ _ h
    have : ∀ {X : List It} {K : St → Prop} {st : St}, vcIts P X K st → vcIts P (X.map (·.dropA [])) K st := by
      intro X
      induction X with
      | nil => intro K st h; exact h
      | cons x X ih => intro K st h; rw [vcIts_cons] at h; rw [List.map_cons, vcIts_cons]; exact vcIt_drop (vcIt_mono h fun s hs => ih hs)
    simp only [flat, List.flatMap_nil, List.nil_append, dsts] at h ⊢
    rw [vcIts_append] at h ⊢
    exact this h
  | cons y c1 ih =>
    intro st hc hp hres h
    obtain ⟨hno, it, e, hi⟩ := hc y (by simp)
    rw [e] at hno
    have e1 : flat (y :: c1) = it :: flat c1 := by simp [flat, e]
    have e3 : dsts (y :: c1) = it.dst.toList ++ dsts c1 := by simp [dsts, e1]
    rw [List.pairwise_cons] at hp
    rw [e1, List.cons_append, vcIts_cons] at h
    have h2 : vcIt P it (vcIts P (X.map (·.dropA (dsts c1))) (vcIts P (flat c1 ++ c2) K)) st := vcIt_mono (keepX hno hres h) fun s hs => by
      have := ih (fun z hz => hc z (by simp [hz])) hp.2 hs.1 hs.2
      rw [vcIts_append] at this; exact this
    rw [e1, e3, vcIts_append, List.cons_append]
    have h3 : vcIts P (X.map (·.dropA (it.dst.toList ++ dsts c1))) (vcIt P it (vcIts P (flat c1 ++ c2) K)) st := by
      rcases hi with hi | ⟨x, rfl, hi⟩
      · have h3 := swapL (fun x hx => by
          obtain ⟨x0, hx0, rfl⟩ := List.mem_map.1 hx
          refine indep_drop (hi x0 hx0) fun d hd => ?_
          simp only [dsts, flat, List.mem_flatMap] at hd
          obtain ⟨z, ⟨g, hg, hz⟩, hd⟩ := hd
          exact hp.1 g hg it (by simp [e]) z hz d hd) h2
        rw [List.map_map] at h3
        have e4 : ((fun x : It => x.dropA it.dst.toList) ∘ fun x : It => x.dropA (dsts c1)) = fun x : It => x.dropA (it.dst.toList ++ dsts c1) := by
          funext x; exact It.dropA_dropA
        rw [e4] at h3
        exact h3
      · obtain ⟨_, g2⟩ := swC_dst hi
        simp only [List.map_cons, List.map_nil, g2] at h2 ⊢
        rw [vcIts_cons]
        exact swapC hi (fun r hr => hres x (by simp) r hr) (vcIt_mono h2 fun s hs => by rw [vcIts_cons] at hs; exact hs)
    refine vcIts_mono h3 fun s hs => ?_
    rw [vcIts_cons]; exact hs

theorem cmpI_drop {P : Program} {o : Oper} {r : Nat} {ap D : List Nat} {i : I} (h : cmpI P o r ap = some i) : cmpI P o r (ap.filter fun t => !D.contains t) = some (i.dropA D) := by
  unfold cmpI at h ⊢
  split at h
  · next t x v ho =>
    simp only [Option.bind_eq_some_iff] at h ⊢
    obtain ⟨i0, h1, h2⟩ := h
    refine ⟨i0, h1, ?_⟩
    cases h2; rfl
  · next t ho =>
    simp only [Option.bind_eq_some_iff] at h ⊢
    obtain ⟨i0, h1, z, h2, h3⟩ := h
    refine ⟨i0, h1, z, h2, ?_⟩
    split at h3
    · next hc => rw [if_pos hc]; cases h3; rfl
    · cases h3
  · next t x ho =>
    simp only [Option.bind_eq_some_iff] at h ⊢
    obtain ⟨i0, h1, h2⟩ := h
    exact ⟨i0, h1, by cases h2; rfl⟩
  · next t len parts ho =>
    unfold cmpBsl at h ⊢
    split at h
    · simp only [Option.bind_eq_some_iff] at h ⊢
      obtain ⟨i0, h1, z, h2, h3⟩ := h
      refine ⟨i0, h1, z, h2, ?_⟩
      split at h3
      · next hc => rw [if_pos hc]; cases h3; rfl
      · cases h3
    · cases h
  · next c ho =>
    split at h
    · next f hf =>
      split at h
      · next hok => cases h; rw [if_pos hok]; rfl
      · cases h
    · next fv hf => cases h; rfl
    · next b hb =>
      split at h
      · next ha =>
        rw [if_pos ha]
        unfold cmpApp at h ⊢
        simp only [Option.bind_eq_some_iff] at h ⊢
        obtain ⟨t, h1, t2, h2, x, h3, y, h4, h5⟩ := h
        refine ⟨t, h1, t2, h2, x, h3, y, h4, ?_⟩
        split at h5
        · simp only [Option.bind_eq_some_iff] at h5 ⊢
          obtain ⟨i0, g1, z, g2, g3⟩ := h5
          refine ⟨i0, g1, z, g2, ?_⟩
          split at g3
          · next hc => rw [if_pos hc]; cases g3; rfl
          · cases g3
        · cases h5
      · next ha =>
        rw [if_neg ha]
        simp only [Option.map_eq_some_iff] at h ⊢
        obtain ⟨l, h1, h2⟩ := h
        exact ⟨l, h1, by subst h2; rfl⟩
    · cases h
  · cases h; rfl
  · next t m k v ho =>
    unfold cmpMup at h ⊢
    split at h
    · split at h
      · split at h
        · next hdn => cases h; rw [if_pos hdn]; rfl
        · cases h
      · cases h
    · cases h
  · next t m k v ho =>
    unfold cmpMup at h ⊢
    split at h
    · split at h
      · split at h
        · next hdn => cases h; rw [if_pos hdn]; rfl
        · cases h
      · cases h
    · cases h
  · next t x ho =>
    unfold cmpRng at h ⊢
    split at h
    · cases h; rfl
    · cases h
  · next it str ho =>
    split at h
    · next hs => cases h; rw [if_pos hs]; rfl
    · cases h
  · simp only [Option.map_eq_some_iff] at h
    obtain ⟨l, g1, rfl⟩ := h
    rw [g1]; rfl

theorem cmp_drop {P : Program} {o : Oper} {r : Nat} {ap D : List Nat} {i : I} (h : cmpI P o r ap = some i ∨ ∃ b, cmpM b o = some i) : cmpI P o r (ap.filter fun t => !D.contains t) = some (i.dropA D) ∨ ∃ b, cmpM b o = some (i.dropA D) := by
  rcases h with h | h
  · exact .inl (cmpI_drop h)
  · right
    obtain ⟨b, h⟩ := h
    refine ⟨b, ?_⟩
    have : i.dropA D = i := by
      unfold cmpM at h
      split at h
      · split at h
        · split at h <;> (cases h; rfl)
        · cases h
      · cases h
    rw [this]; exact h

theorem match_drop {P : Program} {N : Nat} {ops : Array Oper} {D : List Nat} : ∀ {l : List It} {js : List Nat}, MatchIts P N ops l js → MatchIts P N ops (l.map (·.dropA D)) js := by
  intro l
  induction l with
  | nil => intro js h; cases js <;> exact h
  | cons it l ih =>
    intro js h
    cases it with
    | g i =>
      obtain ⟨h1, h2⟩ := h
      have g1 : (i.dropA D).ghost = true := by cases i <;> first | exact h1 | cases h1
      cases js <;> exact ⟨g1, ih h2⟩
    | o j i =>
      cases js with
      | nil => exact h.elim
      | cons j' js =>
        obtain ⟨rfl, ⟨o, ap, ho, hgu, hc, hd⟩, hm⟩ := h
        exact ⟨rfl, ⟨o, _, ho, hgu, cmp_drop hc, hd⟩, ih hm⟩
    | gd j s want d i =>
      cases js with
      | nil => exact h.elim
      | cons j' js =>
        obtain ⟨rfl, ⟨o, ap, gj, ho, hgu, hs, hN, hdst, hc, hd⟩, hm⟩ := h
        exact ⟨rfl, ⟨o, _, gj, ho, hgu, hs, hN, hdst, cmp_drop hc, hd⟩, ih hm⟩

section
variable {P : Program} {N : Nat} {F : Nat → Prop}

theorem wpOp_then {ops : Array Oper} {Q : Exit → Act → World → Prop} {next : Act → World → Prop} {j : Nat} {a : Act} {w : World}
    (hs : wpOp P ops (Exit.then next (fun _ _ _ => False)) j (wpOps P ops (Exit.then next (fun _ _ _ => False)) []) a w) : wpOp P ops Q j next a w := by
  have hn : ∀ a w, wpOps P ops (Exit.then next (fun _ _ _ => False)) [] a w → next a w := fun a w h => h
  unfold wpOp at hs ⊢
  cases ho : ops[j]? with
  | none => rw [ho] at hs; exact hn _ _ hs
  | some o =>
    rw [ho] at hs
    by_cases hw : Region.wanted o (yielded ops a.tmps) = true
    · simp only [hw, if_true] at hs ⊢
      rcases hs with hs | ⟨_, a0, w0, hs⟩
      · refine .inl ?_
        unfold Oper.wp at hs ⊢
        generalize (execOp a.eval o).run P w = r at hs ⊢
        cases r with
        | ok n w' =>
          cases n <;> simp only [Oper.upon] at hs ⊢ <;> first
            | exact hn _ _ hs
            | exact hs.mono fun e w'' he => by cases e <;> first | exact hn _ _ he | exact he.elim | (obtain ⟨_, _, q⟩ := he; exact q.elim)
            | exact Rows.mono hs fun v w'' he => hn _ _ he
        | halt x w' => cases x <;> simp only [Oper.upon, Exit.then] at hs ⊢
      · exact hs.elim
    · simp only [hw, if_false, Bool.false_eq_true] at hs ⊢
      exact hn _ _ hs

/-- One operation, with what stands ahead of it. -/
theorem grp_sound {ops : Array Oper} {Q : Exit → Act → World → Prop} {next : Act → World → Prop} {j : Nat} : ∀ (l : List It), MatchIts P N ops l [j] → ∀ (w : World) (β : Nat → Hd) (st : St) (a : Act) (k : St → Prop), Rel w β F N st a →
    vcIts P l k st → (∀ a' w' β' st', Adv F w st.hp β w' st'.hp β' → Rel w' β' F N st' a' → st.hp.length ≤ st'.hp.length → k st' → next a' w') → wpOp P ops Q j next a w := by
  intro l
  induction l with
  | nil => intro hm; exact hm.elim
  | cons it l ih =>
    intro hm w β st a k hR h hQ
    cases it with
    | g i =>
      obtain ⟨hg, hm⟩ := hm
      obtain ⟨β', st', ⟨adv, hR', hl⟩, hk⟩ := sound_ghost hg hR (k := vcIts P l k) h
      exact ih hm w β' st' a k hR' hk fun a' w' β'' st'' adv' hR'' hl' hk' => hQ a' w' β'' st'' (adv.trans adv') hR'' (Nat.le_trans hl hl') hk'
    | o j' i =>
      have hs := its_sound (P := P) (Q := Exit.then next (fun _ _ _ => False)) (.o j' i :: l) [j] hm w β st a k hR h hQ
      rw [wpOps_cons] at hs
      exact wpOp_then hs
    | gd j' s want d i =>
      have hs := its_sound (P := P) (Q := Exit.then next (fun _ _ _ => False)) (.gd j' s want d i :: l) [j] hm w β st a k hR h hQ
      rw [wpOps_cons] at hs
      exact wpOp_then hs

def depOf (o : Oper) : List Nat := (o.after.toList.filter (Region.binds .any)).map (·.on)

def Closed (ops : Array Oper) (listed : Array Bool) : Prop :=
  ∀ (i : Nat) (o : Oper), listed.getD i false = true → ops[i]? = some o → ∀ d ∈ depOf o, listed.getD d false = true

/-- 'dep x y': operation x surely comes behind y. -/
def DepOk (ops : Array Oper) (dep : Nat → Nat → Bool) : Prop :=
  ∀ listed : Array Bool, Closed ops listed → ∀ x y, dep x y = true → (∀ o, ops[x]? = some o → ∀ d ∈ depOf o, listed.getD d false = true) → listed.getD y false = true

def maskOf (l : List Nat) (o : Oper) : Nat := (depOf o).foldl (fun s d => s ||| 2 ^ d ||| l.getD d 0) 0

/-- For each operation those that surely come ahead of it, as bits. -/
def maskUpTo (ops : Array Oper) : Nat → List Nat
  | 0 => []
  | k + 1 => let l := maskUpTo ops k; l ++ [match ops[k]? with | some o => maskOf l o | none => 0]

def depB (ops : Array Oper) (m : List Nat) (x y : Nat) : Bool := (m.getD x 0).testBit y

theorem mask_length {ops : Array Oper} : ∀ n, (maskUpTo ops n).length = n := by
  intro n; induction n with
  | zero => rfl
  | succ n ih => simp [maskUpTo, ih]

theorem mask_get {ops : Array Oper} : ∀ n x, x < n → (maskUpTo ops n).getD x 0 = (match ops[x]? with | some o => maskOf (maskUpTo ops x) o | none => 0) := by
  intro n
  induction n with
  | zero => intro x h; omega
  | succ n ih =>
    intro x h
    simp only [maskUpTo, List.getD, List.getElem?_append, mask_length]
    by_cases hx : x < n
    · rw [if_pos hx]; exact ih x hx
    · obtain rfl : x = n := by omega
      rw [if_neg hx, Nat.sub_self]; rfl

theorem maskOf_bit {l : List Nat} {y : Nat} : ∀ (ds : List Nat) (s : Nat), (ds.foldl (fun s d => s ||| 2 ^ d ||| l.getD d 0) s).testBit y = true → s.testBit y = true ∨ ∃ d ∈ ds, d = y ∨ (l.getD d 0).testBit y = true := by
  intro ds
  induction ds with
  | nil => intro s h; exact .inl h
  | cons d ds ih =>
    intro s h
    rcases ih _ h with h | ⟨d', h1, h2⟩
    · simp only [Nat.testBit_or, Bool.or_eq_true, Nat.testBit_two_pow, decide_eq_true_eq] at h
      rcases h with (h | h) | h
      · exact .inl h
      · exact .inr ⟨d, by simp, .inl h⟩
      · exact .inr ⟨d, by simp, .inr h⟩
    · exact .inr ⟨d', by simp [h1], h2⟩

theorem depB_ok {ops : Array Oper} (hdn : ∀ (i : Nat) (o : Oper), ops[i]? = some o → ∀ d ∈ depOf o, d < i) : DepOk ops (depB ops (maskUpTo ops ops.size)) := by
  intro listed hc x
  induction x using Nat.strongRecOn with
  | _ x ih =>
    intro y h hx
    unfold depB at h
    by_cases hlt : x < ops.size
    · rw [mask_get _ _ hlt] at h
      have ho := Array.getElem?_eq_getElem hlt
      rw [ho] at h
      rcases maskOf_bit _ _ h with h | ⟨d, hd, h⟩
      · simp at h
      · have hdl := hx _ ho d hd
        have hdx := hdn x _ ho d hd
        rcases h with rfl | h
        · exact hdl
        · refine ih d hdx y ?_ fun o' ho' d' hd' => hc d o' hdl ho' d' hd'
          unfold depB
          rw [mask_get _ _ (by omega)]
          rw [mask_get _ _ hdx] at h
          exact h
    · have : (maskUpTo ops ops.size).getD x 0 = 0 := by
        simp only [List.getD]
        rw [List.getElem?_eq_none (by rw [mask_length]; omega)]; rfl
      rw [this] at h; simp at h

theorem ready_iff {ops : Array Oper} {listed : Array Bool} {i : Nat} (hi : i ∈ Region.ready .any ops listed) : i < ops.size ∧ listed.getD i true = false ∧ ∀ o, ops[i]? = some o → ∀ d ∈ depOf o, listed.getD d false = true := by
  unfold Region.ready at hi
  simp only [List.mem_filter, List.mem_range, Bool.and_eq_true, Bool.not_eq_true'] at hi
  obtain ⟨h1, h2, h3⟩ := hi
  refine ⟨h1, h2, fun o ho d hd => ?_⟩
  rw [ho] at h3
  simp only [Option.map_some, Option.getD_some, Array.all_eq_true_iff_forall_mem] at h3
  simp only [depOf, List.mem_map, List.mem_filter, Array.mem_toList_iff] at hd
  obtain ⟨e, ⟨he, hb⟩, rfl⟩ := hd
  have := h3 e he
  simpa [hb] using this

theorem getD_set {listed : Array Bool} {i k : Nat} {b : Bool} (hi : i < listed.size) : (listed.setIfInBounds i true).getD k b = if i = k then true else listed.getD k b := by
  simp only [Array.getD_eq_getD_getElem?, Array.getElem?_setIfInBounds]
  split
  · next h => subst h; simp [hi]
  · rfl

theorem any_sound {ops : Array Oper} {Q : Exit → Act → World → Prop} {dep : Nat → Nat → Bool} (hdep : DepOk ops dep) (hdn : ∀ (i : Nat) (o : Oper), ops[i]? = some o → ∀ d ∈ depOf o, d < i) {tail : List It} (ht : MatchIts P N ops tail []) :
    ∀ (c : GL) (listed : Array Bool) (w : World) (β : Nat → Hd) (st : St) (a : Act) (k : St → Prop), listed.size = ops.size → (c.map (·.1)).Nodup → (∀ i, i < ops.size → (listed.getD i true = false ↔ i ∈ c.map (·.1))) →
      (∀ g ∈ c, g.1 < ops.size ∧ MatchIts P N ops g.2 [g.1]) → Closed ops listed → c.Pairwise (okPair ops dep) → (∀ g ∈ c, allres g.2 st) → Rel w β F N st a → vcIts P (flat c ++ tail) k st →
      (∀ a' w' β' st', Adv F w st.hp β w' st'.hp β' → Rel w' β' F N st' a' → st.hp.length ≤ st'.hp.length → k st' → Q .normal a' w') → wpAny P .any ops Q c.length listed a w := by
  intro c
  induction hlen : c.length using Nat.strongRecOn generalizing c with
  | _ m ih =>
  intro listed w β st a k hsz hnd hun hg hcl hpw hres hR h hQ
  have fin : c = [] → Q .normal a w := by
    rintro rfl
    have := its_sound (P := P) (ops := ops) (Q := Q) tail [] ht w β st a k hR h hQ
    exact this
  have noready : Region.ready .any ops listed = [] → c = [] := by
    intro hr
    refine Classical.byContradiction fun hne => ?_
    -- the least that isn't listed is ready
    have hex : ∃ i, i < ops.size ∧ listed.getD i true = false := by
      cases c with
      | nil => exact (hne rfl).elim
      | cons g c => exact ⟨g.1, (hg g (by simp)).1, (hun g.1 (hg g (by simp)).1).2 (by simp)⟩
    obtain ⟨i, hi, hil⟩ := hex
    have : ∀ m i, i ≤ m → i < ops.size → listed.getD i true = false → False := by
      intro m
      induction m with
      | zero =>
        intro i him hi hil
        obtain rfl : i = 0 := by omega
        have hmem : 0 ∈ Region.ready .any ops listed := by
          unfold Region.ready
          simp only [List.mem_filter, List.mem_range, Bool.and_eq_true, Bool.not_eq_true']
          refine ⟨hi, hil, ?_⟩
          have ho := Array.getElem?_eq_getElem hi
          rw [ho]
          simp only [Option.map_some, Option.getD_some, Array.all_eq_true_iff_forall_mem]
          intro e he
          cases hb : Region.binds .any e with
          | false => rfl
          | true =>
            have := hdn 0 _ ho e.on (by simp only [depOf, List.mem_map, List.mem_filter, Array.mem_toList_iff]; exact ⟨e, ⟨he, hb⟩, rfl⟩)
            omega
        rw [hr] at hmem; cases hmem
      | succ m ihm =>
        intro i him hi hil
        by_cases hall : ∀ k, k < i → listed.getD k true = true
        · have hmem : i ∈ Region.ready .any ops listed := by
            unfold Region.ready
            simp only [List.mem_filter, List.mem_range, Bool.and_eq_true, Bool.not_eq_true']
            refine ⟨hi, hil, ?_⟩
            have ho := Array.getElem?_eq_getElem hi
            rw [ho]
            simp only [Option.map_some, Option.getD_some, Array.all_eq_true_iff_forall_mem]
            intro e he
            cases hb : Region.binds .any e with
            | false => rfl
            | true =>
              have hlt := hdn i _ ho e.on (by simp only [depOf, List.mem_map, List.mem_filter, Array.mem_toList_iff]; exact ⟨e, ⟨he, hb⟩, rfl⟩)
              have h1 := hall e.on hlt
              have hlt2 : e.on < listed.size := by omega
              simp only [Array.getD, hlt2, dif_pos] at h1 ⊢
              simpa using h1
          rw [hr] at hmem; cases hmem
        · have : ∃ k, k < i ∧ listed.getD k true = false := Classical.byContradiction fun hn => hall fun k hk => by
            cases hv : listed.getD k true with
            | true => rfl
            | false => exact (hn ⟨k, hk, hv⟩).elim
          obtain ⟨k', hk', hv⟩ := this
          exact ihm k' (by omega) (by omega) hv
    exact this i i (Nat.le_refl _) hi hil
  cases m with
  | zero =>
    have hc0 : c = [] := List.length_eq_zero_iff.1 hlen
    refine ⟨?_, fin hc0⟩
    refine List.eq_nil_iff_forall_not_mem.2 fun i hi => ?_
    obtain ⟨h1, h2, _⟩ := ready_iff hi
    have := (hun i h1).1 h2
    rw [hc0] at this
    cases this
  | succ m =>
    refine ⟨fun hr => fin (noready hr), fun i hi => ?_⟩
    obtain ⟨h1, h2, h3⟩ := ready_iff hi
    have hmem := (hun i h1).1 h2
    obtain ⟨g, hgm, rfl⟩ := List.mem_map.1 hmem
    obtain ⟨c1, c2, rfl⟩ := List.append_of_mem hgm
    obtain ⟨i, X⟩ := g
    have hpre : ∀ y ∈ c1, norn y.2 X = true ∧ ∃ it, y.2 = [it] ∧ passes it X := by
      intro y hy
      refine ⟨((List.pairwise_append.1 hpw).2.2 y hy (i, X) (by simp)).2.1.1, ?_⟩
      have hp := ((List.pairwise_append.1 hpw).2.2 y hy (i, X) (by simp)).1
      rcases hp with hp | hp
      · have hl := hdep listed hcl i y.1 hp h3
        have hy2 := hg y (by simp [hy])
        have := (hun y.1 hy2.1).2 (by simp only [List.map_append, List.mem_append, List.mem_map]; exact .inl ⟨y, hy, rfl⟩)
        have hlt : y.1 < listed.size := by omega
        simp only [Array.getD, hlt, dif_pos] at hl this
        rw [hl] at this; cases this
      · exact hp
    have hflat : flat (c1 ++ (i, X) :: c2) ++ tail = flat c1 ++ (X ++ (flat c2 ++ tail)) := by simp [flat]
    rw [hflat] at h
    have h' := bring hpre ((List.pairwise_append.1 hpw).1.imp fun hp => hp.2.2) (hres (i, X) (by simp)) h
    rw [vcIts_append] at h'
    have hrest : allres (flat (c1 ++ c2)) st := fun y hy r hr => by
      obtain ⟨g, hg1, hg2⟩ := List.mem_flatMap.1 hy
      exact hres g (by rcases List.mem_append.1 hg1 with e | e <;> simp [e]) y hg2 r hr
    have hnorn : norn X (flat (c1 ++ c2)) = true := by
      simp only [norn, List.all_eq_true, decide_eq_true_eq]
      intro x hx y hy r hr
      obtain ⟨g, hg1, hg2⟩ := List.mem_flatMap.1 hy
      have : norn X g.2 = true := by
        rcases List.mem_append.1 hg1 with e | e
        · exact ((List.pairwise_append.1 hpw).2.2 g e (i, X) (by simp)).2.1.2
        · exact ((List.pairwise_cons.1 (List.pairwise_append.1 hpw).2.1).1 g e).2.1.1
      simp only [norn, List.all_eq_true, decide_eq_true_eq] at this
      exact this x hx y hg2 r hr
    have h' := keepXs (norn_drop hnorn) hrest h'
    refine grp_sound (X.map (·.dropA (dsts c1))) (match_drop (hg (i, X) (by simp)).2) w β st a _ hR h' fun a' w' β' st' adv hR' hl' hk' => ?_
    have hlen' : (c1 ++ c2).length = m := by simp at hlen ⊢; omega
    have hsub : (c1 ++ c2).Sublist (c1 ++ (i, X) :: c2) := List.Sublist.append_left (List.sublist_cons_self _ _) _
    have hnd' : ((c1 ++ c2).map (·.1)).Nodup := hnd.sublist (hsub.map _)
    have hil : i < listed.size := by omega
    have hnoti : i ∉ (c1 ++ c2).map (·.1) := by
      simp only [List.map_append, List.map_cons, List.mem_append] at hnd ⊢
      have := List.nodup_append.1 hnd
      rintro (e | e)
      · exact this.2.2 i e i (by simp) rfl
      · exact (List.nodup_cons.1 this.2.1).1 e
    have hih := ih m (by omega) (c1 ++ c2) hlen' (listed.setIfInBounds i true) w' β' st' a' k (by simp; exact hsz) hnd' (fun q hq => ?_) (fun g hg' => hg g (hsub.subset hg')) (fun q o hql ho d hd => ?_) (hpw.sublist hsub) (fun g hg' y hy r hr => hk'.1 y (List.mem_flatMap.2 ⟨g, hg', hy⟩) r hr) hR'
      (by simpa [flat] using hk'.2) (fun a2 w2 β2 st2 adv2 hR2 hl2 hk2 => hQ a2 w2 β2 st2 (adv.trans adv2) hR2 (Nat.le_trans hl' hl2) hk2)
    · exact hih
    · rw [getD_set hil]
      split
      · next e => subst e; exact ⟨(fun e => by cases e), fun e => (hnoti e).elim⟩
      · next e =>
        rw [hun q hq]
        simp only [List.map_append, List.map_cons, List.mem_append, List.mem_cons]
        constructor
        · rintro (e1 | e1 | e1)
          · exact .inl e1
          · exact (e e1.symm).elim
          · exact .inr e1
        · rintro (e1 | e1)
          · exact .inl e1
          · exact .inr (.inr e1)
    · rw [getD_set hil]
      split
      · rfl
      · rw [getD_set hil] at hql
        split at hql
        · next e => subst e; exact h3 o ho d hd
        · exact hcl q o hql ho d hd

end
end Go.Abs
